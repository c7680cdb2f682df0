/-
  Package date near 2026: Check, Day, Easter, Of.
-/
import Derived.Test.YtkcmkpljpmfiaaaDoorHoA
namespace Go.Proofs.YtkcmkpljpmfiaaaDoor
open Go.RowKit

def chkF (y m d : Int) : Int := if lenF y m < d then 5 else 0
set_option maxHeartbeats 1000000 in
theorem dcheck_any (y m d : Int) (w : World) (hT : Tabs w) (hy : 2000 ≤ y ∧ y ≤ 2100) (hm : 1 ≤ m ∧ m ≤ 4) (hd : 1 ≤ d ∧ d ≤ 31) :
    Calls Tryd.prog 80 #[.agg #[.int .i64 y, .int .i64 m, .int .i64 d]] w fun e w' => e = .returned (.int .i64 (chkF y m d)) ∧ Below w.heap.size w w' := by
  have hb0 : Below w.heap.size w (w.alloc (.cells #[.int .i64 y, .int .i64 m, .int .i64 d] 83)).drew := ((Below.refl _ _).alloc (Nat.le_refl _) _).drew
  have HLE := Lib.hid (length_any y m _ (hT.below hb0) hy hm)
  have HB := Lib.hid hb0
  obtain ⟨L, hL⟩ : ∃ L, lenF y m = L := ⟨_, rfl⟩
  have hli := lenF_in (y := y) hm
  rw [hL] at HLE hli
  have hck : chkF y m d = if L < d then 5 else 0 := by unfold chkF; rw [hL]
  obtain ⟨hy1, hy2⟩ := hy
  obtain ⟨hm1, hm2⟩ := hm
  obtain ⟨hd1, hd2⟩ := hd
  have d1 : decide (y < 1) = false := by simp; omega
  have d2 : decide (y > 9999) = false := by simp; omega
  have d3 : decide (m < 1) = false := by simp; omega
  have d4 : decide (m > 12) = false := by simp; omega
  have d5 : decide (d < 1) = false := by simp; omega
  rw [hck]
  clear hT hb0 hL hck
  by_cases hgt : L < d
  · rw [if_pos hgt]
    have d6 : decide (d > L) = true := by simp; omega
    go_enter Tryd.func80, Tryd.ntmps80
    go_wp2_with fail
    go_region_law
      (go_simp
       go_at_call 64
       refine HLE.out.mono ?_
       rintro e w2 ⟨rfl, h2⟩
       obtain rfl := h2.symm)
    all_goals
      go_wp2_with fail
      go_ret
      exact ⟨rfl, HB.out⟩
  · rw [if_neg hgt]
    have d6 : decide (d > L) = false := by simp; omega
    go_enter Tryd.func80, Tryd.ntmps80
    go_wp2_with fail
    go_region_law
      (go_simp
       go_at_call 64
       refine HLE.out.mono ?_
       rintro e w2 ⟨rfl, h2⟩
       obtain rfl := h2.symm)
    all_goals
      go_wp2_with fail
      go_ret
      exact ⟨rfl, HB.out⟩

end Go.Proofs.YtkcmkpljpmfiaaaDoor
