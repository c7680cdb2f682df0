/-
  math/bits.Len64, bits.Len, merkle.split: for numbers below 65536. (Len64 after the shelf's template.)
-/
import Derived.Test.YtgfnelpfoegdaaaDoorMkP
import Derived.Test.YtgfnelpfoegdaaaDoorDgA
import Derived.Test.YtgfnelpfoegdaaaDoorMkL
namespace Go.Proofs.YtgfnelpfoegdaaaDoor
open Go.RowKit

theorem bitLen_log : ∀ (n x : Nat), x ≤ n → x ≠ 0 → x < 2 ^ 64 → Lib.bitLen x = Nat.log2 x + 1
  | 0, x, h, h0, _ => absurd (by omega) h0
  | n + 1, x, h, h0, h1 => by
    rw [Lib.bitLen_half x h0 h1]
    rcases Nat.lt_or_ge x 2 with h2 | h2
    · obtain rfl : x = 1 := by omega
      rfl
    · rw [bitLen_log n (x / 2) (by omega) (by omega) (by omega), Nat.log2_def x, if_pos h2]
      omega

theorem mkSplit (n : Nat) (w : World) (h2 : 2 ≤ n) (hn : n ≤ 65536) :
    Calls Tryd.prog 32 #[.int .i64 n] w fun e w' => e = .returned (.int .i64 (sp2 n)) ∧ w' = w := by
  obtain ⟨m, rfl⟩ : ∃ m, n = m + 1 := ⟨n - 1, by omega⟩
  obtain ⟨L, hL⟩ : ∃ L, Nat.log2 m = L := ⟨_, rfl⟩
  have hL2 : L ≤ 15 := by
    have h := (Nat.log2_lt (n := m) (k := 16) (by omega)).2 (by omega)
    omega
  have hw : wrap64 (2 ^ L) = ((2 ^ L : Nat) : Int) := by
    rcases (by omega : L = 0 ∨ L = 1 ∨ L = 2 ∨ L = 3 ∨ L = 4 ∨ L = 5 ∨ L = 6 ∨ L = 7 ∨ L = 8 ∨ L = 9 ∨ L = 10 ∨ L = 11 ∨ L = 12 ∨ L = 13 ∨ L = 14 ∨ L = 15) with rfl | rfl | rfl | rfl | rfl | rfl | rfl | rfl | rfl | rfl | rfl | rfl | rfl | rfl | rfl | rfl <;> (unfold wrap64; omega)
  have hb := bitsLen (m : Int) w (by omega) (by omega)
  rw [Int.toNat_natCast, bitLen_log m m (Nat.le_refl _) (by omega) (by omega), hL] at hb
  have hsp : sp2 (m + 1) = 2 ^ L := by unfold sp2; rw [Nat.add_sub_cancel, hL]
  rw [hsp]
  have HB := Lib.hid hb
  clear hb hsp hL
  have he : ((m + 1 : Nat) : Int) - 1 = (m : Int) := by omega
  rw [show ((m + 1 : Nat) : Int) = (m : Int) + 1 by omega]
  go_enter Tryd.func32, Tryd.ntmps32
  go_wp2_with
    (first
      | (go_at_call 56
         refine HB.out.mono ?_
         rintro e w' ⟨rfl, rfl⟩))
  all_goals go_ret
  exact ⟨congrArg Ending.returned (congrArg (Value.int IntKind.i64) hw), rfl⟩

end Go.Proofs.YtgfnelpfoegdaaaDoor
