/-
  allowed, SameSpans.
-/
import Derived.Test.YtbiedadgejgnoaaRtV
namespace Go.Proofs.Ytbiedadgejgnoaa
open Go.RowKit

set_option maxHeartbeats 1000000 in
theorem sameSpans_eq (l : List (Int × Int)) (v u : Value) (w : World) (hx : IsSps w v l) (hy : IsSps w u l) :
    Calls Try.prog 22 #[v, u] w fun e w' => e = .returned (.bool true) ∧ Below w.heap.size w w' := by
  have HX := Lib.hid hx
  have HY := Lib.hid hy
  obtain ⟨a1, c1, rfl, hm, -, -⟩ := hx.open
  obtain ⟨a2, c2, rfl, -, -, -⟩ := hy.open
  unfold maxLen at hm
  clear hx hy
  go_enter Try.func22, Try.ntmps22
  go_wp2_with fail
  go_loopw [5] (fun i wr => ∃ k : Nat, i = .int .i64 k ∧ k ≤ l.length ∧ w.heap.size ≤ wr.heap.size ∧ Hid (Below w.heap.size w wr)) (fun i _ => l.length - (intOf i).toNat)
  case atStart => exact ⟨0, rfl, Nat.zero_le _, Nat.le_refl _, Lib.hid (Below.refl _ _)⟩
  case round =>
    obtain ⟨k, rfl, hk, hsz, HB⟩ := hrel
    by_cases hkl : k < l.length
    · obtain ⟨b1, o1, q1, e1, -, c0, c1'⟩ := (HX.out.below HB.out).at hkl
      obtain ⟨b2, o2, q2, e2, -, d0, d1⟩ := (HY.out.below HB.out).at hkl
      simp only [Value.slice.injEq, true_and] at e1 e2
      obtain ⟨rfl, -⟩ := e1
      obtain ⟨rfl, -⟩ := e2
      generalize l[k] = s at *
      obtain ⟨s1, s2⟩ := s
      simp only at c0 c1' d0 d1
      go_wp2_with fail
      go_region
      all_goals
        have HB9 := Lib.hid (HB.out.drew)
        have hs9 := HB9.out.size
        go_wp2_with fail
        go_roundw
        case rel => exact ⟨k + 1, by go_num, by omega, hs9, HB9⟩
        case measure => simp [intOf]; omega
    · go_wp2_with fail
      go_ret
      exact ⟨rfl, HB.out⟩


def hasDay (out : List (Int × Int)) (nv : Bool) (d : Int) : Bool := if d < 0 then nv else out.any (fun s => decide (s.1 ≤ d) && decide (d ≤ s.2))
theorem hasDay_neg {out : List (Int × Int)} {nv : Bool} {d : Int} (h : d < 0) : hasDay out nv d = nv := by unfold hasDay; rw [if_pos h]
theorem hasDay_pos {out : List (Int × Int)} {nv : Bool} {d : Int} (h : 0 ≤ d) : hasDay out nv d = true ↔ Cov out d := by
  unfold hasDay
  rw [if_neg (by omega), List.any_eq_true]
  constructor
  · rintro ⟨s, hs, h1⟩
    simp at h1
    exact ⟨s, hs, h1.1, h1.2⟩
  · rintro ⟨s, hs, h1, h2⟩
    exact ⟨s, hs, by simp; exact ⟨h1, h2⟩⟩
/-- What 'allowed' says is what is least. -/
theorem Alw.has {l : List Ret} {cs : List (Int × Int)} {sent d : Int} {out : List (Int × Int)} {nv : Bool} (h : Alw l cs sent out nv) (hs : 0 ≤ sent) (hd : Poss sent d) : hasDay out nv d = true ↔ ∀ p, Poss sent p → excF l cs d ≤ excF l cs p := by
  rcases hd with rfl | ⟨h1, h2⟩
  · rw [hasDay_neg (by omega), h.nev]
  · rw [hasDay_pos (by omega), h.cov]
    exact ⟨fun g => g.2.2, fun g => ⟨h1, h2, g⟩⟩

theorem any_take {p : Int × Int → Bool} {l : List (Int × Int)} {k : Nat} (hk : k < l.length) : (l.take (k + 1)).any p = ((l.take k).any p || p l[k]) := by
  rw [List.take_succ_eq_append_getElem hk, List.any_append]
  simp

set_option maxHeartbeats 1000000 in
theorem hasDay_any (out : List (Int × Int)) (v : Value) (nv : Bool) (d : Int) (w : World) (hx : IsSps w v out) :
    Calls Try.prog 23 #[v, .bool nv, .int .i64 d] w fun e w' => e = .returned (.bool (hasDay out nv d)) ∧ Below w.heap.size w w' := by
  have HX := Lib.hid hx
  obtain ⟨a1, c1, rfl, hm, -, -⟩ := hx.open
  unfold maxLen at hm
  clear hx
  by_cases hd : d < 0
  · have HR : Hid (hasDay out nv d = nv) := hasDay_neg hd
    go_enter Try.func23, Try.ntmps23
    go_wp2_with fail
    go_ret
    exact ⟨ret_bool HR.out.symm, Below.refl _ _⟩
  · have HR : Hid (hasDay out nv d = out.any (fun s => decide (s.1 ≤ d) && decide (d ≤ s.2))) := by show _ = _; unfold hasDay; rw [if_neg hd]
    have hd' : 0 ≤ d := by omega
    clear hd
    go_enter Try.func23, Try.ntmps23
    go_wp2_with fail
    go_loopw [7] (fun i wr => ∃ k : Nat, i = .int .i64 k ∧ k ≤ out.length ∧ Hid ((out.take k).any (fun s => decide (s.1 ≤ d) && decide (d ≤ s.2)) = false) ∧ w.heap.size ≤ wr.heap.size ∧ Hid (Below w.heap.size w wr)) (fun i _ => out.length - (intOf i).toNat)
    case atStart => exact ⟨0, rfl, Nat.zero_le _, by show _ = _; simp, Nat.le_refl _, Lib.hid (Below.refl _ _)⟩
    case round =>
      obtain ⟨k, rfl, hk, HN, hsz, HB⟩ := hrel
      by_cases hkl : k < out.length
      · obtain ⟨b1, o1, q1, e1, -, c0, c1'⟩ := (HX.out.below HB.out).at hkl
        simp only [Value.slice.injEq, true_and] at e1
        obtain ⟨rfl, -⟩ := e1
        have HT : Hid (out.any (fun s => decide (s.1 ≤ d) && decide (d ≤ s.2)) = true ∨ (decide (out[k].1 ≤ d) && decide (d ≤ out[k].2)) = false) := by
          show _ ∨ _
          by_cases h : (decide (out[k].1 ≤ d) && decide (d ≤ out[k].2)) = true
          · exact .inl (List.any_eq_true.2 ⟨out[k], List.getElem_mem hkl, h⟩)
          · exact .inr (by simpa using h)
        have HS : Hid ((decide (out[k].1 ≤ d) && decide (d ≤ out[k].2)) = false → (out.take (k + 1)).any (fun s => decide (s.1 ≤ d) && decide (d ≤ s.2)) = false) := fun h => by rw [any_take hkl, HN.out, Bool.false_or]; exact h
        generalize out[k] = s at *
        obtain ⟨s1, s2⟩ := s
        simp only at c0 c1' HT HS
        by_cases h1 : s1 ≤ d
        · by_cases h2 : d ≤ s2
          · have HF : Hid (hasDay out nv d = true) := by
              show _ = _
              rw [HR.out]
              rcases HT.out with h | h
              · exact h
              · simp [h1] at h; omega
            clear HT HS HN
            go_wp2_with fail
            go_ret
            exact ⟨ret_bool HF.out.symm, HB.out⟩
          · have HN2 := Lib.hid (HS.out (by simp; intro _; omega))
            have h2' : s2 < d := by omega
            clear HT HS HN h2
            go_wp2_with fail
            go_roundw
            case rel => exact ⟨k + 1, by go_num, by omega, HN2, hsz, HB⟩
            case measure => simp [intOf]; omega
        · have HN2 := Lib.hid (HS.out (by simp; intro h; omega))
          have h1' : d < s1 := by omega
          clear HT HS HN h1
          go_wp2_with fail
          go_roundw
          case rel => exact ⟨k + 1, by go_num, by omega, HN2, hsz, HB⟩
          case measure => simp [intOf]; omega
      · obtain rfl : k = out.length := by omega
        have HF : Hid (hasDay out nv d = false) := by
          show _ = _
          rw [HR.out]
          have h := HN.out
          rw [List.take_length] at h
          exact h
        clear HN
        go_wp2_with fail
        go_ret
        exact ⟨ret_bool HF.out.symm, HB.out⟩

end Go.Proofs.Ytbiedadgejgnoaa
