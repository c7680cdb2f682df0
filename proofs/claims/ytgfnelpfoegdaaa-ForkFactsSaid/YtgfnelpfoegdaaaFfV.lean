/-
  SameFacts at equal lists.
-/
import Derived.Test.YtgfnelpfoegdaaaFfE
namespace Go.Proofs.Ytgfnelpfoegdaaa
open Go.RowKit

set_option maxHeartbeats 2000000 in
set_option maxRecDepth 100000 in
theorem sameFacts_any (l : List Fc) (v u : Value) (w : World) (hv : IsFcs w v l) (hu : IsFcs w u l) :
    Calls Try.prog 38 #[v, u] w fun e w' => e = .returned (.bool true) ∧ Below w.heap.size w w' := by
  obtain ⟨a, cap, rfl, hmx, hcap, hc⟩ := hv.open
  obtain ⟨a2, cap2, rfl, -, hcap2, hc2⟩ := hu.open
  have HC := Lib.hid hc
  have HC2 := Lib.hid hc2
  unfold maxLen at hmx
  clear hv hu hc hc2
  go_enter Try.func38, Try.ntmps38
  go_wp2_with fail
  go_loopw [5] (fun i wr => ∃ k : Nat, i = .int .i64 k ∧ k ≤ l.length ∧ Hid (Below w.heap.size w wr)) (fun i _ => l.length + 1 - (intOf i).toNat)
  case atStart => exact ⟨0, rfl, by omega, Lib.hid (Below.refl _ _)⟩
  case round =>
    obtain ⟨k, rfl, hkl, HB⟩ := hrel
    by_cases hlt : (k : Int) < (l.length : Int)
    · have hkn : k < l.length := by omega
      obtain ⟨bb, off, rfl, hbb, hr0⟩ := HC.out k hkn
      obtain ⟨bb2, off2, rfl, hbb2, hr2⟩ := HC2.out k hkn
      have hr1 := range_below' hr0 HB.out hbb
      have hr3 := range_below' hr2 HB.out hbb2
      obtain ⟨x, hx⟩ : ∃ x, l[k] = x := ⟨_, rfl⟩
      rw [hx] at hr1 hr3
      obtain ⟨f0, f1, f2, f3, f4, f5⟩ := x
      have c0 := hr1 0 _ rfl
      have c1 := hr1 1 _ rfl
      have c2 := hr1 2 _ rfl
      have c3 := hr1 3 _ rfl
      have c4 := hr1 4 _ rfl
      have c5 := hr1 5 _ rfl
      have d0 := hr3 0 _ rfl
      have d1 := hr3 1 _ rfl
      have d2 := hr3 2 _ rfl
      have d3 := hr3 3 _ rfl
      have d4 := hr3 4 _ rfl
      have d5 := hr3 5 _ rfl
      simp only [Nat.add_zero] at c0 d0
      clear hr0 hr1 hr2 hr3 hx
      go_wp2_with fail
      go_region
      all_goals
        go_wp2_with fail
        go_roundw
        case rel => exact ⟨k + 1, by go_num, by omega, Lib.hid HB.out.drew⟩
        case measure => simp [intOf]; omega
    · go_wp2_with fail
      go_ret
      exact ⟨rfl, HB.out⟩

end Go.Proofs.Ytgfnelpfoegdaaa
