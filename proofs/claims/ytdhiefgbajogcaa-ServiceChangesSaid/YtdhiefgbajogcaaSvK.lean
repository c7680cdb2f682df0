/-
  SameAttempts.
-/
import Derived.Test.YtdhiefgbajogcaaAt
import Derived.Test.YtdhiefgbajogcaaRtX
namespace Go.Proofs.Ytdhiefgbajogcaa
open Go.RowKit

set_option maxHeartbeats 4000000 in
set_option maxRecDepth 100000 in
theorem sameAts (l : List At) (v u : Value) (w : World) (hx : IsAts w v l) (hy : IsAts w u l) :
    Calls Try.prog 22 #[v, u] w fun e w' => e = .returned (.bool true) ∧ Below w.heap.size w w' := by
  have HX := Lib.hid hx
  have HY := Lib.hid hy
  obtain ⟨a1, c1, rfl, hm, -, -⟩ := hx.open
  obtain ⟨a2, c2, rfl, -, -, -⟩ := hy.open
  unfold maxLen at hm
  clear hx hy
  go_enter Try.func22, Try.ntmps22
  go_wp2_with fail
  go_loopw [5] (fun i wr => ∃ k : Nat, i = .int .i64 k ∧ k ≤ l.length ∧ Hid (Below w.heap.size w wr)) (fun i _ => l.length - (intOf i).toNat)
  case atStart => exact ⟨0, rfl, Nat.zero_le _, Lib.hid (Below.refl _ _)⟩
  case round =>
    obtain ⟨k, rfl, hk, HB⟩ := hrel
    by_cases hkl : k < l.length
    · obtain ⟨_, _, e1, -, -, hc1⟩ := (HX.out.below HB.out).open
      obtain ⟨b1, o1, u1, rfl, hu1, d0, d1, d2, d3, d4⟩ := hc1 k hkl
      simp only [Value.slice.injEq, true_and] at e1
      obtain ⟨rfl, -⟩ := e1
      obtain ⟨_, _, e2, -, -, hc2⟩ := (HY.out.below HB.out).open
      obtain ⟨b2, o2, u2, rfl, hu2, g0, g1, g2, g3, g4⟩ := hc2 k hkl
      simp only [Value.slice.injEq, true_and] at e2
      obtain ⟨rfl, -⟩ := e2
      have hkI : (k : Int) < (l.length : Int) := by omega
      have HU1 := Lib.hid hu1
      have HU2 := Lib.hid hu2
      obtain ⟨x1, y1, rfl, -, -⟩ := hu1.open
      obtain ⟨x2, y2, rfl, hmo, -⟩ := hu2.open
      unfold maxLen at hmo
      have hlt1 := World.block_lt_of_cell? _ _ d0
      have hlt2 := World.block_lt_of_cell? _ _ g0
      have HK1 : Hid (∀ X, Below wr.heap.size wr X → X.cell? ⟨b1, o1 + k * 5 + 4, none⟩ = some (.slice x1 l[k].own.length y1)) := fun X hX => (hX.cell (p := ⟨b1, o1 + k * 5 + 4, none⟩) hlt1).trans d4
      have HK2 : Hid (∀ X, Below wr.heap.size wr X → X.cell? ⟨b2, o2 + k * 5 + 4, none⟩ = some (.slice x2 l[k].own.length y2)) := fun X hX => (hX.cell (p := ⟨b2, o2 + k * 5 + 4, none⟩) hlt2).trans g4
      clear hu1 hu2 hc1 hc2
      generalize l[k] = s at *
      obtain ⟨ae, ap, ac, an, ow⟩ := s
      simp only at d0 d1 d2 d3 d4 g0 g1 g2 g3 g4 HU1 HU2 hmo HK1 HK2
      obtain ⟨wo, rfl⟩ : ∃ wo : World, wo = wr := ⟨_, rfl⟩
      go_wp2_with fail
      go_region
      have HB8 : Hid (Below w.heap.size w (wo.drew)) := Lib.hid (HB.out.drew)
      have hs0 : Below wo.heap.size wo (wo.drew) := (Below.refl _ _).drew
      have q0 : wo.heap.size ≤ (wo.drew).heap.size := hs0.size
      have HS8 : Hid (Below wo.heap.size wo (wo.drew)) := Lib.hid hs0
      clear hs0
      clear d0 d1 d2 d3 d4 g0 g1 g2 g3 g4
      go_wp2_with fail
      go_loopw [6] (fun i wi => ∃ q : Nat, i = .int .i64 q ∧ q ≤ ow.length ∧ wo.heap.size ≤ wi.heap.size ∧ Hid (Below wo.heap.size wo wi)) (fun i _ => ow.length - (intOf i).toNat)
      case atStart => exact ⟨0, rfl, Nat.zero_le _, q0, HS8⟩
      case round =>
        obtain ⟨q, rfl, hq, hqs, HQ⟩ := hrel
        have k1 := HK1.out _ HQ.out
        have k2 := HK2.out _ HQ.out
        by_cases hql : q < ow.length
        · obtain ⟨p1, o3, q1, e1, -, c0, c1', c2', c3⟩ := (HU1.out.below HQ.out).at hql
          obtain ⟨p2, o4, q2, e2, -, d0, d1, d2, d3⟩ := (HU2.out.below HQ.out).at hql
          simp only [Value.slice.injEq, true_and] at e1 e2
          obtain ⟨rfl, -⟩ := e1
          obtain ⟨rfl, -⟩ := e2
          have hqI : (q : Int) < (ow.length : Int) := by omega
          generalize ow[q] = s at *
          obtain ⟨s1, s2, s3, s4⟩ := s
          simp only at c0 c1' c2' c3 d0 d1 d2 d3
          go_wp2_with fail
          go_region
          all_goals
            have HQ9 := Lib.hid (HQ.out.drew)
            have hq9 := HQ9.out.size
            go_wp2_with fail
            go_roundw
            case rel => exact ⟨q + 1, by go_num, by omega, hq9, HQ9⟩
            case measure => simp [intOf]; omega
        · have hqI : ¬ (q : Int) < (ow.length : Int) := by omega
          have HB9 := Lib.hid (Below.to HB.out HQ.out HB.out.size)
          go_wp2_with fail
          go_roundw
          case rel => exact ⟨k + 1, by go_num, by omega, HB9⟩
          case measure => simp [intOf]; omega
    · have hkI : ¬ (k : Int) < (l.length : Int) := by omega
      go_wp2_with fail
      go_ret
      exact ⟨rfl, HB.out⟩

end Go.Proofs.Ytdhiefgbajogcaa
