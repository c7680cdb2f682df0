/-
  Pick. (the seat of chapter 21)
-/
import Derived.Test.YtdhiefgbajogcaaRtV
import Derived.Test.YtdhiefgbajogcaaArd
namespace Go.Proofs.Ytdhiefgbajogcaa
open Go.RowKit

def pickF (l : List Int) (i : Nat) (most : Int) : Int := match l[i]? with
  | none => 0
  | some x => around x most
theorem pickF_in (l : List Int) (i : Nat) (most : Int) (h : 0 < most) : 0 ≤ pickF l i most ∧ pickF l i most < most := by
  unfold pickF
  cases l[i]? with
  | none => exact ⟨Int.le_refl _, h⟩
  | some x => exact ⟨around_lo x most h, around_hi x most h⟩

theorem pick_any (l : List Int) (v : Value) (i : Nat) (most : Int) (w : World) (hx : IsInts w v l) (hl : ∀ x ∈ l, I64 x) (_hi : i ≤ 1000000) (h1 : 0 < most) (h2 : most ≤ 1000000000) :
    Calls Try.prog 32 #[v, .int .i64 i, .int .i64 most] w fun e w' => e = .returned (.int .i64 (pickF l i most)) ∧ w = w' := by
  obtain ⟨a, cap, rfl, hm, -, hc⟩ := hx.open
  unfold maxLen at hm
  by_cases hil : i < l.length
  · obtain ⟨b, o, rfl, d0⟩ := hc i hil
    have HA := Lib.hid (around_any l[i] most (hl _ (List.getElem_mem hil)) (by omega) w)
    have HR : Hid (pickF l i most = around l[i] most) := by show _ = _; unfold pickF; rw [List.getElem?_eq_getElem hil]
    have hge : ¬ (l.length : Int) ≤ (i : Int) := by omega
    clear hx hc hl
    generalize l[i] = x at *
    go_enter Try.func32, Try.ntmps32
    go_wp2_with fail
    refine HA.out.mono ?_
    rintro e w' ⟨rfl, rfl⟩
    go_wp2_with fail
    go_ret
    exact ⟨ret_int HR.out.symm, rfl⟩
  · have HR : Hid (pickF l i most = 0) := by show _ = _; unfold pickF; rw [List.getElem?_eq_none (by omega)]
    have hge : (l.length : Int) ≤ (i : Int) := by omega
    clear hx hc hl
    go_enter Try.func32, Try.ntmps32
    go_wp2_with fail
    go_ret
    exact ⟨ret_int HR.out.symm, rfl⟩

end Go.Proofs.Ytdhiefgbajogcaa
