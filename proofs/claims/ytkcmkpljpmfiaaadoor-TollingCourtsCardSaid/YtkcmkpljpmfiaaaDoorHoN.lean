/-
  Package holiday: Is. Package calendar: within.
-/
import Derived.Test.YtkcmkpljpmfiaaaDoorHoM
namespace Go.Proofs.YtkcmkpljpmfiaaaDoor
open Go.RowKit

set_option maxHeartbeats 1000000 in
theorem is_any (hs : List Hol) (v : Value) (d : Int) (w : World) (hv : IsHos w v hs) (hi : ∀ h ∈ hs, HolIn h) (hl : hs.length ≤ 10) (hT : Tabs w) (hd : 739500 ≤ d ∧ d ≤ 740000) :
    Calls Tryd.prog 27 #[v, .int .i64 d] w fun e w' => e = .returned (.bool (isF hs d)) ∧ Below w.heap.size w w' := by
  have HBE := Lib.hid (between_any hs v d w hv hi hl hT hd)
  have HWD : Hid (∀ w7, Calls Tryd.prog 32 #[.int .i64 d, .int .i64 0, .int .i64 3652058] w7 fun e w' => e = .returned (.bool true) ∧ w' = w7) := fun w7 => by
    have h := within_any d 0 3652058 w7
    rwa [show decide (0 ≤ d ∧ d ≤ 3652058) = true by simp; omega] at h
  obtain ⟨b, hb⟩ : ∃ b, isF hs d = b := ⟨_, rfl⟩
  rw [hb] at HBE ⊢
  obtain ⟨av, cv, rfl, -, -, -⟩ := hv.open
  clear hv hi hT hb
  go_enter Tryd.func27, Tryd.ntmps27
  go_wp2_with (go_at_call 32; refine (HWD.out _).mono ?_; rintro e w9 ⟨rfl, h9⟩; obtain rfl := h9.symm)
  refine HBE.out.mono ?_
  rintro e w2 ⟨⟨a, n, cap, rfl, hn, hi⟩, hb2⟩
  have HB2 := Lib.hid hb2
  have hdn : Hid (decide (0 < (n : Int)) = b) := by
    show _ = _
    rw [Bool.eq_iff_iff, decide_eq_true_eq, ← hi]
    omega
  clear hb2 HBE hi
  go_wp2_with fail
  go_ret
  exact ⟨ret_b (by first | exact hdn.out | (rw [← hdn.out]; simp) | trace_state), HB2.out⟩

theorem cwithin_any (n : Int) (w : World) (h0 : 0 ≤ n) (h1 : n ≤ 3652058) : Calls Tryd.prog 16 #[.int .i64 n] w fun e w' => e = .returned (.bool true) ∧ w' = w := by
  go_enter Tryd.func16, Tryd.ntmps16
  go_wp2_with fail
  go_ret
  exact ⟨rfl, rfl⟩

end Go.Proofs.YtkcmkpljpmfiaaaDoor
