/-
  Package date near 2026: Day, Easter, Of.
-/
import Derived.Test.YtkcmkpljpmfiaaaDoorHoB
namespace Go.Proofs.YtkcmkpljpmfiaaaDoor
open Go.RowKit

/-- The day of a date, and the error. -/
def dayF (y m d : Int) : Int × Int := if lenF y m < d then (0, 5) else (numF y m d, 0)
set_option maxHeartbeats 1000000 in
theorem day_any (y m d : Int) (w : World) (hT : Tabs w) (hy : 2000 ≤ y ∧ y ≤ 2100) (hm : 1 ≤ m ∧ m ≤ 4) (hd : 1 ≤ d ∧ d ≤ 31) :
    Calls Tryd.prog 60 #[.agg #[.int .i64 y, .int .i64 m, .int .i64 d]] w fun e w' => e = .returned (.tuple #[.int .i64 (dayF y m d).1, .int .i64 (dayF y m d).2]) ∧ Below w.heap.size w w' := by
  obtain ⟨W1, hW1⟩ : ∃ W, W = w.alloc (.cells #[.int .i64 y, .int .i64 m, .int .i64 d] 83) := ⟨_, rfl⟩
  obtain ⟨P, hP⟩ : ∃ P, P = w.heap.size := ⟨_, rfl⟩
  have hb1 : Below w.heap.size w W1 := by rw [hW1]; exact (Below.refl _ _).alloc (Nat.le_refl _) _
  have hrow : W1.heap[P]? = some (.cells #[.int .i64 y, .int .i64 m, .int .i64 d] 83 (0, 0)) := by
    rw [hW1, hP]; show (w.heap.push _)[w.heap.size]? = _; simp
  have hlt : P < W1.heap.size := (Array.getElem?_eq_some_iff.1 hrow).1
  have HCK := Lib.hid (dcheck_any y m d W1 (hT.below hb1) hy hm hd)
  have HNU := Lib.hid (fun w7 => number_any y m d w7 hy (by omega) (by omega))
  have HRW : Hid (∀ w', Below W1.heap.size W1 w' → w'.cell? ⟨P, 0, none⟩ = some (.int .i64 y) ∧ w'.cell? ⟨P, 1, none⟩ = some (.int .i64 m) ∧ w'.cell? ⟨P, 2, none⟩ = some (.int .i64 d)) := fun w' hb => by
    have h2 := (hb.block P hlt).trans hrow
    refine ⟨?_, ?_, ?_⟩ <;> simp [World.cell?, h2]
  have HB1 := Lib.hid hb1
  have HW1 := Lib.hid hW1
  have HP := Lib.hid hP
  by_cases hgt : lenF y m < d
  · have hc : chkF y m d = 5 := if_pos hgt
    have hf : dayF y m d = (0, 5) := if_pos hgt
    rw [hc] at HCK
    rw [hf]
    clear hT hb1 hrow hlt hW1 hP hc hf hgt
    go_enter Tryd.func60, Tryd.ntmps60
    go_wp2_with fail
    rw [← HW1.out]
    refine HCK.out.mono ?_
    rintro e w2 ⟨rfl, hb2⟩
    have HB2 := Lib.hid (Below.to HB1.out hb2 HB1.out.size)
    clear hb2
    go_wp2_with fail
    go_ret2
    exact ⟨rfl, HB2.out⟩
  · have hc : chkF y m d = 0 := if_neg hgt
    have hf : dayF y m d = (numF y m d, 0) := if_neg hgt
    rw [hc] at HCK
    rw [hf]
    clear hT hb1 hrow hlt hW1 hP hc hf hgt
    go_enter Tryd.func60, Tryd.ntmps60
    go_wp2_with fail
    rw [← HW1.out, ← HP.out]
    refine HCK.out.mono ?_
    rintro e w2 ⟨rfl, hb2⟩
    have HB2 := Lib.hid (Below.to HB1.out hb2 HB1.out.size)
    obtain ⟨c0, c1, c2⟩ := HRW.out w2 hb2
    clear hb2
    go_wp2_with fail
    refine (HNU.out w2).mono ?_
    rintro e w3 ⟨rfl, hb3⟩
    have HB3 := Lib.hid (Below.to HB2.out hb3 HB2.out.size)
    clear hb3
    go_wp2_with fail
    go_ret2
    exact ⟨rfl, HB3.out⟩
theorem dayF_in {y m d : Int} (hy : 2000 ≤ y ∧ y ≤ 2100) (hm : 1 ≤ m ∧ m ≤ 4) (hd : 1 ≤ d ∧ d ≤ 31) : 0 ≤ (dayF y m d).1 ∧ (dayF y m d).1 ≤ 770000 ∧ 0 ≤ (dayF y m d).2 ∧ (dayF y m d).2 ≤ 5 := by
  have h := numF_in hy (m := m) (d := d) (by omega) (by omega)
  unfold dayF
  split <;> simp only <;> omega

/-- Easter Sunday, of the years at hand. -/
def eaF : Int → Int
  | 2024 => numF 2024 3 31
  | 2025 => numF 2025 4 20
  | 2026 => numF 2026 4 5
  | 2027 => numF 2027 3 28
  | 2028 => numF 2028 4 16
  | 2029 => numF 2029 4 1
  | 2030 => numF 2030 4 21
  | _ => 0
theorem eaF_in {y : Int} (hy : 2024 ≤ y ∧ y ≤ 2030) : 729000 ≤ eaF y ∧ eaF y ≤ 770000 := by
  rcases (by omega : y = 2024 ∨ y = 2025 ∨ y = 2026 ∨ y = 2027 ∨ y = 2028 ∨ y = 2029 ∨ y = 2030) with rfl | rfl | rfl | rfl | rfl | rfl | rfl <;> exact numF_in (by omega) (by omega) (by omega)
set_option maxHeartbeats 1000000 in
theorem easter_any (y : Int) (w : World) (hy : 2024 ≤ y ∧ y ≤ 2030) :
    Calls Tryd.prog 69 #[.int .i64 y] w fun e w' => e = .returned (.tuple #[.int .i64 (eaF y), .int .i64 0]) ∧ Below w.heap.size w w' := by
  have HNU := Lib.hid (fun y m d w7 h1 h2 h3 => number_any y m d w7 h1 h2 h3)
  rcases (by omega : y = 2024 ∨ y = 2025 ∨ y = 2026 ∨ y = 2027 ∨ y = 2028 ∨ y = 2029 ∨ y = 2030) with rfl | rfl | rfl | rfl | rfl | rfl | rfl <;>
  · go_enter Tryd.func69, Tryd.ntmps69
    go_wp2_with fail
    refine (HNU.out _ _ _ w (by omega) (by omega) (by omega)).mono ?_
    rintro e w2 ⟨rfl, hb2⟩
    have HB2 := Lib.hid hb2
    clear hb2
    go_wp2_with fail
    go_ret2
    exact ⟨rfl, HB2.out⟩

end Go.Proofs.YtkcmkpljpmfiaaaDoor
