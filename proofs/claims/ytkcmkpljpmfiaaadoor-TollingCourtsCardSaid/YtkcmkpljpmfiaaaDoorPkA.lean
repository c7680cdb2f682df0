/-
  Around and Pick of the references. (Lines of Ard, RtG, An3 put together.)
-/
import Derived.Test.YtkcmkpljpmfiaaaDoorHoA
namespace Go.Proofs.YtkcmkpljpmfiaaaDoor
open Go.RowKit
theorem ret_int {k : IntKind} {a b : Int} (h : a = b) : Ending.returned (.int k a) = .returned (.int k b) := by rw [h]

def around (n most : Int) : Int := (if n < 0 then -(n + 1) else n) % most

theorem around_neg (n most : Int) (h : n < 0) : -((n + 1).tmod most) = around n most := by
  unfold around; rw [if_pos h, ← Int.neg_tmod, Int.tmod_eq_emod_of_nonneg (by omega)]
theorem around_pos (n most : Int) (h : ¬ n < 0) : n % most = around n most := by
  unfold around; rw [if_neg h]
theorem around_lo (n most : Int) (h : 1 ≤ most) : 0 ≤ around n most := Int.emod_nonneg _ (by omega)
theorem around_hi (n most : Int) (h : 1 ≤ most) : around n most < most := Int.emod_lt_of_pos _ (by omega)

set_option maxHeartbeats 400000 in
theorem around_any (n most : Int) (hn : I64 n) (h1 : 1 ≤ most) (w : World) :
    Calls Tryd.prog 5 #[.int .i64 n, .int .i64 most] w fun e w' => e = .returned (.int .i64 (around n most)) ∧ w = w' := by
  unfold I64 at hn
  obtain ⟨hn1, hn2⟩ := hn
  have hz : (most == 0) = false := by simp; omega
  by_cases h0 : n < 0
  · go_enter Tryd.func5, Tryd.ntmps5
    go_wp2
    go_ret
    exact ⟨ret_int (around_neg _ _ h0), rfl⟩
  · go_enter Tryd.func5, Tryd.ntmps5
    go_wp2
    go_ret
    exact ⟨ret_int (around_pos _ _ (by omega)), rfl⟩


theorem around_nat {n : Int} {m : Nat} (h : 1 ≤ m) : ∃ k : Nat, around n m = k ∧ k < m := by
  have h1 := around_lo n m (by omega)
  have h2 := around_hi n m (by omega)
  exact ⟨(around n m).toNat, by omega, by omega⟩


def pickF (l : List Int) (i : Nat) (most : Int) : Int := match l[i]? with
  | none => 0
  | some x => around x most
theorem pickF_in (l : List Int) (i : Nat) (most : Int) (h : 0 < most) : 0 ≤ pickF l i most ∧ pickF l i most < most := by
  unfold pickF
  cases l[i]? with
  | none => exact ⟨Int.le_refl _, h⟩
  | some x => exact ⟨around_lo x most h, around_hi x most h⟩

theorem pick_any (l : List Int) (v : Value) (i : Nat) (most : Int) (w : World) (hx : IsInts w v l) (hl : ∀ x ∈ l, I64 x) (_hi : i ≤ 1000000) (h1 : 0 < most) (h2 : most ≤ 1000000000) :
    Calls Tryd.prog 11 #[v, .int .i64 i, .int .i64 most] w fun e w' => e = .returned (.int .i64 (pickF l i most)) ∧ w = w' := by
  obtain ⟨a, cap, rfl, hm, -, hc⟩ := hx.open
  unfold maxLen at hm
  by_cases hil : i < l.length
  · obtain ⟨b, o, rfl, d0⟩ := hc i hil
    have HA := Lib.hid (around_any l[i] most (hl _ (List.getElem_mem hil)) (by omega) w)
    have HR : Hid (pickF l i most = around l[i] most) := by show _ = _; unfold pickF; rw [List.getElem?_eq_getElem hil]
    have hge : ¬ (l.length : Int) ≤ (i : Int) := by omega
    clear hx hc hl
    generalize l[i] = x at *
    go_enter Tryd.func11, Tryd.ntmps11
    go_wp2_with fail
    refine HA.out.mono ?_
    rintro e w' ⟨rfl, rfl⟩
    go_wp2_with fail
    go_ret
    exact ⟨ret_int HR.out.symm, rfl⟩
  · have HR : Hid (pickF l i most = 0) := by show _ = _; unfold pickF; rw [List.getElem?_eq_none (by omega)]
    have hge : (l.length : Int) ≤ (i : Int) := by omega
    clear hx hc hl
    go_enter Tryd.func11, Tryd.ntmps11
    go_wp2_with fail
    go_ret
    exact ⟨ret_int HR.out.symm, rfl⟩

set_option maxHeartbeats 400000 in
theorem around3_any (n most : Int) (hn : I64 n) (h1 : 1 ≤ most) (w : World) :
    Calls Tryd.prog 20 #[.int .i64 n, .int .i64 most] w fun e w' => e = .returned (.int .i64 (around n most)) ∧ w = w' := by
  unfold I64 at hn
  obtain ⟨hn1, hn2⟩ := hn
  have hz : (most == 0) = false := by simp; omega
  by_cases h0 : n < 0
  · go_enter Tryd.func20, Tryd.ntmps20
    go_wp2
    go_ret
    exact ⟨ret_int (around_neg _ _ h0), rfl⟩
  · go_enter Tryd.func20, Tryd.ntmps20
    go_wp2
    go_ret
    exact ⟨ret_int (around_pos _ _ (by omega)), rfl⟩


theorem pick3_any (l : List Int) (v : Value) (i : Nat) (most : Int) (w : World) (hx : IsInts w v l) (hl : ∀ x ∈ l, I64 x) (_hi : i ≤ 1000000) (h1 : 0 < most) (h2 : most ≤ 1000000000) :
    Calls Tryd.prog 19 #[v, .int .i64 i, .int .i64 most] w fun e w' => e = .returned (.int .i64 (pickF l i most)) ∧ w = w' := by
  obtain ⟨a, cap, rfl, hm, -, hc⟩ := hx.open
  unfold maxLen at hm
  by_cases hil : i < l.length
  · obtain ⟨b, o, rfl, d0⟩ := hc i hil
    have HA := Lib.hid (around3_any l[i] most (hl _ (List.getElem_mem hil)) (by omega) w)
    have HR : Hid (pickF l i most = around l[i] most) := by show _ = _; unfold pickF; rw [List.getElem?_eq_getElem hil]
    have hge : ¬ (l.length : Int) ≤ (i : Int) := by omega
    clear hx hc hl
    generalize l[i] = x at *
    go_enter Tryd.func19, Tryd.ntmps19
    go_wp2_with fail
    refine HA.out.mono ?_
    rintro e w' ⟨rfl, rfl⟩
    go_wp2_with fail
    go_ret
    exact ⟨ret_int HR.out.symm, rfl⟩
  · have HR : Hid (pickF l i most = 0) := by show _ = _; unfold pickF; rw [List.getElem?_eq_none (by omega)]
    have hge : (l.length : Int) ≤ (i : Int) := by omega
    clear hx hc hl
    go_enter Tryd.func19, Tryd.ntmps19
    go_wp2_with fail
    go_ret
    exact ⟨ret_int HR.out.symm, rfl⟩

end Go.Proofs.YtkcmkpljpmfiaaaDoor
