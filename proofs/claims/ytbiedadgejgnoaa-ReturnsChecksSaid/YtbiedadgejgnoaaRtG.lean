/-
  The generators of chapter 20: base, Pick, Carriers.
-/
import Derived.Test.YtbiedadgejgnoaaRtV
import Derived.Test.YtbiedadgejgnoaaArd
namespace Go.Proofs.Ytbiedadgejgnoaa
open Go.RowKit

def baseF (n : Int) : Int := if around n 400 < 20 then around n 400 else if around n 400 < 40 then 3652058 - around n 400 else 739616 + around n 400
theorem baseF_in (n : Int) : 0 ≤ baseF n ∧ baseF n ≤ 3652058 := by
  have h1 := around_lo n 400 (by omega)
  have h2 := around_hi n 400 (by omega)
  unfold baseF
  split
  · omega
  · split <;> omega

theorem base_any (n : Int) (hn : I64 n) (w : World) : Calls Try.prog 31 #[.int .i64 n] w fun e w' => e = .returned (.int .i64 (baseF n)) ∧ w = w' := by
  obtain ⟨R, hR⟩ : ∃ R, baseF n = R := ⟨_, rfl⟩
  rw [hR]
  have HA := Lib.hid (around_any n 400 hn (by omega) w)
  have h1 := around_lo n 400 (by omega)
  have h2 := around_hi n 400 (by omega)
  unfold baseF at hR
  generalize around n 400 = a at *
  have hw1 : IntKind.i64.wrap (3652058 - a) = 3652058 - a := by rw [IntKind.wrap_i64]; omega
  have hw2 : IntKind.i64.wrap (739616 + a) = 739616 + a := by rw [IntKind.wrap_i64]; omega
  by_cases h0 : a < 20
  · have HR : Hid (R = a) := by show _ = _; rw [← hR, if_pos h0]
    clear hR
    go_enter Try.func31, Try.ntmps31
    go_wp2_with fail
    refine HA.out.mono ?_
    rintro e w' ⟨rfl, rfl⟩
    go_wp2_with fail
    go_ret
    exact ⟨ret_int HR.out.symm, rfl⟩
  · by_cases h3 : a < 40
    · have HR : Hid (R = 3652058 - a) := by show _ = _; rw [← hR, if_neg h0, if_pos h3]
      have g0 : 20 ≤ a := by omega
      clear hR h0
      go_enter Try.func31, Try.ntmps31
      go_wp2_with fail
      refine HA.out.mono ?_
      rintro e w' ⟨rfl, rfl⟩
      go_wp2_with fail
      go_ret
      exact ⟨ret_int HR.out.symm, rfl⟩
    · have HR : Hid (R = 739616 + a) := by show _ = _; rw [← hR, if_neg h0, if_neg h3]
      have g0 : 20 ≤ a := by omega
      have g1 : 40 ≤ a := by omega
      clear hR h0 h3
      go_enter Try.func31, Try.ntmps31
      go_wp2_with fail
      refine HA.out.mono ?_
      rintro e w' ⟨rfl, rfl⟩
      go_wp2_with fail
      go_ret
      exact ⟨ret_int HR.out.symm, rfl⟩

def pickF (l : List Int) (i : Nat) (most : Int) : Int := match l[i]? with
  | none => 0
  | some x => around x most
theorem pickF_in (l : List Int) (i : Nat) (most : Int) (h : 0 < most) : 0 ≤ pickF l i most ∧ pickF l i most < most := by
  unfold pickF
  cases l[i]? with
  | none => exact ⟨Int.le_refl _, h⟩
  | some x => exact ⟨around_lo x most h, around_hi x most h⟩

theorem pick_any (l : List Int) (v : Value) (i : Nat) (most : Int) (w : World) (hx : IsInts w v l) (hl : ∀ x ∈ l, I64 x) (_hi : i ≤ 1000000) (h1 : 0 < most) (h2 : most ≤ 1000000000) :
    Calls Try.prog 57 #[v, .int .i64 i, .int .i64 most] w fun e w' => e = .returned (.int .i64 (pickF l i most)) ∧ w = w' := by
  obtain ⟨a, cap, rfl, hm, -, hc⟩ := hx.open
  unfold maxLen at hm
  by_cases hil : i < l.length
  · obtain ⟨b, o, rfl, d0⟩ := hc i hil
    have HA := Lib.hid (around_any l[i] most (hl _ (List.getElem_mem hil)) (by omega) w)
    have HR : Hid (pickF l i most = around l[i] most) := by show _ = _; unfold pickF; rw [List.getElem?_eq_getElem hil]
    have hge : ¬ (l.length : Int) ≤ (i : Int) := by omega
    clear hx hc hl
    generalize l[i] = x at *
    go_enter Try.func57, Try.ntmps57
    go_wp2_with fail
    refine HA.out.mono ?_
    rintro e w' ⟨rfl, rfl⟩
    go_wp2_with fail
    go_ret
    exact ⟨ret_int HR.out.symm, rfl⟩
  · have HR : Hid (pickF l i most = 0) := by show _ = _; unfold pickF; rw [List.getElem?_eq_none (by omega)]
    have hge : (l.length : Int) ≤ (i : Int) := by omega
    clear hx hc hl
    go_enter Try.func57, Try.ntmps57
    go_wp2_with fail
    go_ret
    exact ⟨ret_int HR.out.symm, rfl⟩

end Go.Proofs.Ytbiedadgejgnoaa
