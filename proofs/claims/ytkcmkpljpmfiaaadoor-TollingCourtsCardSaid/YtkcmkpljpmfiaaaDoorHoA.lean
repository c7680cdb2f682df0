/-
  Package date near 2026: Leap, Length, number, Day, Weekday, Easter, Of.
-/
import Derived.Test.YtkcmkpljpmfiaaaDoorMem
import Derived.Test.YtkcmkpljpmfiaaaDoorProg
import Derived.Test.YtkcmkpljpmfiaaaDoorChecked
import Derived.Deep.MidRow
import Derived.Deep.RegionLaw
import Derived.Laws.Rows
namespace Go.Proofs.YtkcmkpljpmfiaaaDoor
open Go.RowKit

theorem ret_i {a b : Int} (h : a = b) : Ending.returned (.int .i64 a) = .returned (.int .i64 b) := by rw [h]
theorem ret_b {a b : Bool} (h : a = b) : Ending.returned (.bool a) = .returned (.bool b) := by rw [h]

/-- The day of a date. -/
def numY (y m d : Int) : Int := 365 * y + y / 4 - y / 100 + y / 400 + (153 * m + 2) / 5 + d - 307
def numF (y m d : Int) : Int := if m < 3 then numY (y - 1) (m - 3 + 12) d else numY y (m - 3) d
theorem numF_in {y m d : Int} (hy : 2000 ≤ y ∧ y ≤ 2100) (hm : 1 ≤ m ∧ m ≤ 12) (hd : 0 ≤ d ∧ d ≤ 40) : 729000 ≤ numF y m d ∧ numF y m d ≤ 770000 := by
  unfold numF numY
  split <;> omega

set_option maxHeartbeats 1000000 in
theorem number_any (y m d : Int) (w : World) (hy : 2000 ≤ y ∧ y ≤ 2100) (hm : 1 ≤ m ∧ m ≤ 12) (hd : 0 ≤ d ∧ d ≤ 40) :
    Calls Tryd.prog 81 #[.agg #[.int .i64 y, .int .i64 m, .int .i64 d]] w fun e w' => e = .returned (.int .i64 (numF y m d)) ∧ Below w.heap.size w w' := by
  obtain ⟨hy1, hy2⟩ := hy
  obtain ⟨hm1, hm2⟩ := hm
  obtain ⟨hd1, hd2⟩ := hd
  have HB : Hid (Below w.heap.size w (w.alloc (.cells #[.int .i64 y, .int .i64 m, .int .i64 d] 83)).drew) := ((Below.refl _ _).alloc (Nat.le_refl _) _).drew
  by_cases h3 : m < 3
  · have hn : Hid (numF y m d = 365 * (y - 1) + (y - 1) / 4 - (y - 1) / 100 + (y - 1) / 400 + (153 * (m - 3 + 12) + 2) / 5 + d - 307) := if_pos h3
    have h0 : m - 3 < 0 := by omega
    go_enter Tryd.func81, Tryd.ntmps81
    go_wp2_with fail
    go_region
    all_goals
      go_wp2_with fail
      go_ret
      exact ⟨ret_i hn.out.symm, HB.out⟩
  · have hn : Hid (numF y m d = 365 * y + y / 4 - y / 100 + y / 400 + (153 * (m - 3) + 2) / 5 + d - 307) := if_neg h3
    have h0 : ¬ m - 3 < 0 := by omega
    go_enter Tryd.func81, Tryd.ntmps81
    go_wp2_with fail
    go_region
    all_goals
      go_wp2_with fail
      go_ret
      exact ⟨ret_i hn.out.symm, HB.out⟩

def leapB (y : Int) : Bool := (y % 4 == 0) && ((y % 100 != 0) || (y % 400 == 0))
theorem leap_any (y : Int) (w : World) (hy : 2000 ≤ y ∧ y ≤ 2100) : Calls Tryd.prog 82 #[.int .i64 y] w fun e w' => e = .returned (.bool (leapB y)) ∧ w' = w := by
  obtain ⟨hy1, hy2⟩ := hy
  have hl : leapB y = ((y % 4 == 0) && ((y % 100 != 0) || (y % 400 == 0))) := rfl
  obtain ⟨b4, h4⟩ : ∃ b, (y % 4 == 0) = b := ⟨_, rfl⟩
  obtain ⟨b1, h1⟩ : ∃ b, (y % 100 != 0) = b := ⟨_, rfl⟩
  obtain ⟨b2, h2⟩ : ∃ b, (y % 400 == 0) = b := ⟨_, rfl⟩
  rw [h4, h1, h2] at hl
  have HL := Lib.hid hl
  clear hl
  cases b4 <;> cases b1 <;> cases b2 <;>
  · go_enter Tryd.func82, Tryd.ntmps82
    go_wp2_with fail
    go_ret
    exact ⟨ret_b HL.out.symm, rfl⟩

def lenTab : List Int := [0, 31, 28, 31, 30, 31, 30, 31, 31, 30, 31, 30, 31]
def lenF (y m : Int) : Int := if m = 2 ∧ leapB y = true then 29 else lenTab.getD m.toNat 0
theorem lenF_in {y m : Int} (hm : 1 ≤ m ∧ m ≤ 4) : 28 ≤ lenF y m ∧ lenF y m ≤ 31 := by
  unfold lenF
  split
  · omega
  · obtain ⟨k, rfl⟩ := Int.eq_ofNat_of_zero_le (by omega : 0 ≤ m)
    match k, hm with
    | 1, _ => decide
    | 2, _ => decide
    | 3, _ => decide
    | 4, _ => decide
/-- The tables that start-up lays. -/
def movTab : List Int := [0, 0, 0, 0, 0, 0, 0, 0, 0, 0, 0, 0, 2, 1, 0, 0, 0, 0, 0, -1, 1]
structure Tabs (w : World) : Prop where
  mov : w.rangeAt 0 0 (movTab.map (Value.int .i64))
  len : w.rangeAt 1 0 (lenTab.map (Value.int .i64))
theorem Tabs.lt {w : World} (h : Tabs w) : 1 < w.heap.size := World.block_lt_of_cell? w _ (h.len 0 (.int .i64 0) rfl)
theorem Tabs.below {w w' : World} (h : Tabs w) (hb : Below w.heap.size w w') : Tabs w' := by
  have hl := h.lt
  refine ⟨fun j v hv => ?_, fun j v hv => ?_⟩
  · have h1 := h.mov j v hv
    exact (hb.cell (World.block_lt_of_cell? w _ h1)).trans h1
  · have h1 := h.len j v hv
    exact (hb.cell (World.block_lt_of_cell? w _ h1)).trans h1

theorem length_any (y m : Int) (w : World) (hT : Tabs w) (hy : 2000 ≤ y ∧ y ≤ 2100) (hm : 1 ≤ m ∧ m ≤ 4) : Calls Tryd.prog 64 #[.int .i64 y, .int .i64 m] w fun e w' => e = .returned (.int .i64 (lenF y m)) ∧ w' = w := by
  have HLP := Lib.hid (leap_any y w hy)
  obtain ⟨b, hb⟩ : ∃ b, leapB y = b := ⟨_, rfl⟩
  rw [hb] at HLP
  have hlf : lenF y m = if m = 2 ∧ b = true then 29 else lenTab.getD m.toNat 0 := by rw [← hb]; rfl
  obtain ⟨k, rfl⟩ := Int.eq_ofNat_of_zero_le (by omega : 0 ≤ m)
  have c1 := hT.len 1 _ rfl
  have c2 := hT.len 2 _ rfl
  have c3 := hT.len 3 _ rfl
  have c4 := hT.len 4 _ rfl
  simp only [Nat.zero_add] at c1 c2 c3 c4
  rw [hlf]
  clear hT hb hlf
  match k, hm with
  | 1, _ =>
    go_enter Tryd.func64, Tryd.ntmps64
    go_wp2_with fail
    go_ret
    exact ⟨rfl, rfl⟩
  | 2, _ =>
    cases b
    · go_enter Tryd.func64, Tryd.ntmps64
      go_wp2_with fail
      refine HLP.out.mono ?_
      rintro e w2 ⟨rfl, h2⟩
      obtain rfl := h2.symm
      go_wp2_with fail
      go_ret
      exact ⟨rfl, rfl⟩
    · go_enter Tryd.func64, Tryd.ntmps64
      go_wp2_with fail
      refine HLP.out.mono ?_
      rintro e w2 ⟨rfl, h2⟩
      obtain rfl := h2.symm
      go_wp2_with fail
      go_ret
      exact ⟨rfl, rfl⟩
  | 3, _ =>
    go_enter Tryd.func64, Tryd.ntmps64
    go_wp2_with fail
    go_ret
    exact ⟨rfl, rfl⟩
  | 4, _ =>
    go_enter Tryd.func64, Tryd.ntmps64
    go_wp2_with fail
    go_ret
    exact ⟨rfl, rfl⟩

theorem weekday_any (d : Int) (w : World) (hd : 0 ≤ d ∧ d ≤ 10000000) : Calls Tryd.prog 26 #[.int .i64 d] w fun e w' => e = .returned (.int .i64 (d % 7)) ∧ w' = w := by
  obtain ⟨h1, h2⟩ := hd
  have h3 : Hid ((d % 7 + 7) % 7 = d % 7) := by show _ = _; omega
  go_enter Tryd.func26, Tryd.ntmps26
  go_wp2_with fail
  go_ret
  exact ⟨ret_i h3.out, rfl⟩

end Go.Proofs.YtkcmkpljpmfiaaaDoor
