/-
  Around. (put together by wip/tools/assemble.py)
-/
import Derived.Test.YtbiedadgejgnoaaSpK
namespace Go.Proofs.Ytbiedadgejgnoaa
open Go.RowKit
def around (n most : Int) : Int := (if n < 0 then -(n + 1) else n) % most

theorem around_neg (n most : Int) (h : n < 0) : -((n + 1).tmod most) = around n most := by
  unfold around; rw [if_pos h, ← Int.neg_tmod, Int.tmod_eq_emod_of_nonneg (by omega)]
theorem around_pos (n most : Int) (h : ¬ n < 0) : n % most = around n most := by
  unfold around; rw [if_neg h]
theorem around_lo (n most : Int) (h : 1 ≤ most) : 0 ≤ around n most := Int.emod_nonneg _ (by omega)
theorem around_hi (n most : Int) (h : 1 ≤ most) : around n most < most := Int.emod_lt_of_pos _ (by omega)

set_option maxHeartbeats 400000 in
theorem around_any (n most : Int) (hn : I64 n) (h1 : 1 ≤ most) (w : World) :
    Calls Try.prog 14 #[.int .i64 n, .int .i64 most] w fun e w' => e = .returned (.int .i64 (around n most)) ∧ w = w' := by
  unfold I64 at hn
  obtain ⟨hn1, hn2⟩ := hn
  have hz : (most == 0) = false := by simp; omega
  by_cases h0 : n < 0
  · go_enter Try.func14, Try.ntmps14
    go_wp2
    go_ret
    exact ⟨ret_int (around_neg _ _ h0), rfl⟩
  · go_enter Try.func14, Try.ntmps14
    go_wp2
    go_ret
    exact ⟨ret_int (around_pos _ _ (by omega)), rfl⟩


theorem around_nat {n : Int} {m : Nat} (h : 1 ≤ m) : ∃ k : Nat, around n m = k ∧ k < m := by
  have h1 := around_lo n m (by omega)
  have h2 := around_hi n m (by omega)
  exact ⟨(around n m).toNat, by omega, by omega⟩


end Go.Proofs.Ytbiedadgejgnoaa
