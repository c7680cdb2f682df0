/-
  Contract of Same where both lists read alike.
-/
import Derived.Test.YtgfnelpfoegdaaaFWj
import Derived.Test.YtgfnelpfoegdaaaFR6
namespace Go.Proofs.Ytgfnelpfoegdaaa
open Go.RowKit

set_option maxHeartbeats 4000000 in
set_option maxRecDepth 100000 in
theorem sameBrs_eq (l : List Br) (v u : Value) (w : World) (hl : IsBrs w v l) (hm : IsBrs w u l) :
    Calls Try.prog 19 #[v, u] w fun e w' => e = .returned (.bool true) ∧ Below w.heap.size w w' := by
  have HL := Lib.hid hl
  have HM := Lib.hid hm
  obtain ⟨a1, cap1, rfl, hlm, -, -⟩ := hl.open
  obtain ⟨a2, cap2, rfl, -, -, -⟩ := hm.open
  unfold maxLen at hlm
  clear hl hm
  go_enter Try.func19, Try.ntmps19
  go_wp2_with fail
  go_loopw [5] (fun i wr => ∃ k : Nat, i = .int .i64 k ∧ k ≤ l.length ∧ w.heap.size ≤ wr.heap.size ∧ Hid (Below w.heap.size w wr)) (fun i _ => l.length - (intOf i).toNat)
  case atStart => exact ⟨0, rfl, Nat.zero_le _, Nat.le_refl _, Lib.hid (Below.refl _ _)⟩
  case round =>
    obtain ⟨k, rfl, hk, hsz, HB⟩ := hrel
    by_cases hlt : k < l.length
    · have HLW : Hid (IsBrs wr (.slice a1 l.length cap1) l) := HL.out.below HB.out
      have HMW : Hid (IsBrs wr (.slice a2 l.length cap2) l) := HM.out.below HB.out
      have hx := List.getElem?_eq_getElem hlt
      obtain ⟨b1, o1, q1, u1, e1, hu1, -, c0, c1, c2, c3, c4⟩ := HLW.out.at hx
      obtain ⟨b2, o2, q2, u2, e2, hu2, -, d0, d1, d2, d3, d4⟩ := HMW.out.at hx
      simp only [Value.slice.injEq, true_and] at e1 e2
      obtain ⟨rfl, rfl⟩ := e1
      obtain ⟨rfl, rfl⟩ := e2
      have HU1 : Hid (IsInts wr.drew u1 l[k].own) := hu1.below (Below.refl _ _).drew
      have HU2 : Hid (IsInts wr.drew u2 l[k].own) := hu2.below (Below.refl _ _).drew
      obtain ⟨ua1, uc1, rfl, -, -, -⟩ := hu1.open
      obtain ⟨ua2, uc2, rfl, -, -, -⟩ := hu2.open
      clear hu1 hu2 hx HLW HMW
      generalize hX : l[k] = X at *
      obtain ⟨par, crt, at_, own, opn⟩ := X
      simp only at c0 c1 c2 c3 c4 d0 d1 d2 d3 d4 HU1 HU2
      clear hX
      go_wp2_with fail
      go_region_held3 (fun w' => (w'.cell? ⟨b1, o1 + k * 5, none⟩ = some (.int .i64 par) ∧ w'.cell? ⟨b1, o1 + k * 5 + 1, none⟩ = some (.int .i64 crt) ∧ w'.cell? ⟨b1, o1 + k * 5 + 2, none⟩ = some (.int .i64 at_) ∧ w'.cell? ⟨b1, o1 + k * 5 + 3, none⟩ = some (.slice ua1 own.length uc1) ∧ w'.cell? ⟨b1, o1 + k * 5 + 4, none⟩ = some (.bool opn)) ∧ (w'.cell? ⟨b2, o2 + k * 5, none⟩ = some (.int .i64 par) ∧ w'.cell? ⟨b2, o2 + k * 5 + 1, none⟩ = some (.int .i64 crt) ∧ w'.cell? ⟨b2, o2 + k * 5 + 2, none⟩ = some (.int .i64 at_) ∧ w'.cell? ⟨b2, o2 + k * 5 + 3, none⟩ = some (.slice ua2 own.length uc2) ∧ w'.cell? ⟨b2, o2 + k * 5 + 4, none⟩ = some (.bool opn)))
        (first | go_keep)
        (first
          | (go_at_call 28; refine (same_eq _ _ _ _ HU1.out HU2.out).mono ?_; rintro e w9 ⟨rfl, m, rfl⟩))
      all_goals
        have HB9 := Lib.hid (below_drewN HB.out (1 + m))
        have hs9 := HB9.out.size
        go_wp2_with fail
        go_roundw
        case rel => exact ⟨k + 1, by go_num, by omega, hs9, HB9⟩
        case measure => simp [intOf]; omega
    · go_wp2_with fail
      go_ret
      exact ⟨rfl, HB.out⟩

end Go.Proofs.Ytgfnelpfoegdaaa
