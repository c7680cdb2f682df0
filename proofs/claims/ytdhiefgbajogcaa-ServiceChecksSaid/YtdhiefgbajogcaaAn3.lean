/-
  Around and Pick of rollbookref03.
-/
import Derived.Test.YtdhiefgbajogcaaRtG
namespace Go.Proofs.Ytdhiefgbajogcaa
open Go.RowKit

set_option maxHeartbeats 400000 in
theorem around3_any (n most : Int) (hn : I64 n) (h1 : 1 ≤ most) (w : World) :
    Calls Try.prog 42 #[.int .i64 n, .int .i64 most] w fun e w' => e = .returned (.int .i64 (around n most)) ∧ w = w' := by
  unfold I64 at hn
  obtain ⟨hn1, hn2⟩ := hn
  have hz : (most == 0) = false := by simp; omega
  by_cases h0 : n < 0
  · go_enter Try.func42, Try.ntmps42
    go_wp2
    go_ret
    exact ⟨ret_int (around_neg _ _ h0), rfl⟩
  · go_enter Try.func42, Try.ntmps42
    go_wp2
    go_ret
    exact ⟨ret_int (around_pos _ _ (by omega)), rfl⟩


theorem pick3_any (l : List Int) (v : Value) (i : Nat) (most : Int) (w : World) (hx : IsInts w v l) (hl : ∀ x ∈ l, I64 x) (_hi : i ≤ 1000000) (h1 : 0 < most) (h2 : most ≤ 1000000000) :
    Calls Try.prog 28 #[v, .int .i64 i, .int .i64 most] w fun e w' => e = .returned (.int .i64 (pickF l i most)) ∧ w = w' := by
  obtain ⟨a, cap, rfl, hm, -, hc⟩ := hx.open
  unfold maxLen at hm
  by_cases hil : i < l.length
  · obtain ⟨b, o, rfl, d0⟩ := hc i hil
    have HA := Lib.hid (around3_any l[i] most (hl _ (List.getElem_mem hil)) (by omega) w)
    have HR : Hid (pickF l i most = around l[i] most) := by show _ = _; unfold pickF; rw [List.getElem?_eq_getElem hil]
    have hge : ¬ (l.length : Int) ≤ (i : Int) := by omega
    clear hx hc hl
    generalize l[i] = x at *
    go_enter Try.func28, Try.ntmps28
    go_wp2_with fail
    refine HA.out.mono ?_
    rintro e w' ⟨rfl, rfl⟩
    go_wp2_with fail
    go_ret
    exact ⟨ret_int HR.out.symm, rfl⟩
  · have HR : Hid (pickF l i most = 0) := by show _ = _; unfold pickF; rw [List.getElem?_eq_none (by omega)]
    have hge : (l.length : Int) ≤ (i : Int) := by omega
    clear hx hc hl
    go_enter Try.func28, Try.ntmps28
    go_wp2_with fail
    go_ret
    exact ⟨ret_int HR.out.symm, rfl⟩

end Go.Proofs.Ytdhiefgbajogcaa
