/-
  SameSpans of lists that read alike; Used.
-/
import Derived.Test.YtkcmkpljpmfiaaaDoorExt
namespace Go.Proofs.YtkcmkpljpmfiaaaDoor
open Go.RowKit

set_option maxHeartbeats 1000000 in
theorem sameSpans_eq (l : List (Int × Int)) (v u : Value) (w : World) (hx : IsSps w v l) (hy : IsSps w u l) :
    Calls Tryd.prog 18 #[v, u] w fun e w' => e = .returned (.bool true) ∧ Below w.heap.size w w' := by
  have HX := Lib.hid hx
  have HY := Lib.hid hy
  obtain ⟨a1, c1, rfl, hm, -, -⟩ := hx.open
  obtain ⟨a2, c2, rfl, -, -, -⟩ := hy.open
  unfold maxLen at hm
  clear hx hy
  go_enter Tryd.func18, Tryd.ntmps18
  go_wp2_with fail
  go_loopw [5] (fun i wr => ∃ k : Nat, i = .int .i64 k ∧ k ≤ l.length ∧ w.heap.size ≤ wr.heap.size ∧ Hid (Below w.heap.size w wr)) (fun i _ => l.length - (intOf i).toNat)
  case atStart => exact ⟨0, rfl, Nat.zero_le _, Nat.le_refl _, Lib.hid (Below.refl _ _)⟩
  case round =>
    obtain ⟨k, rfl, hk, hsz, HB⟩ := hrel
    by_cases hkl : k < l.length
    · obtain ⟨b1, o1, q1, e1, -, c0, c1'⟩ := (HX.out.below HB.out).at hkl
      obtain ⟨b2, o2, q2, e2, -, d0, d1⟩ := (HY.out.below HB.out).at hkl
      simp only [Value.slice.injEq, true_and] at e1 e2
      obtain ⟨rfl, -⟩ := e1
      obtain ⟨rfl, -⟩ := e2
      generalize l[k] = s at *
      obtain ⟨s1, s2⟩ := s
      simp only at c0 c1' d0 d1
      go_wp2_with fail
      go_region
      all_goals
        have HB9 := Lib.hid (HB.out.drew)
        have hs9 := HB9.out.size
        go_wp2_with fail
        go_roundw
        case rel => exact ⟨k + 1, by go_num, by omega, hs9, HB9⟩
        case measure => simp [intOf]; omega
    · go_wp2_with fail
      go_ret
      exact ⟨rfl, HB.out⟩

def usedP (st d : Int) (s : Int × Int) : Bool := decide (st < s.2) && decide (s.1 ≤ d)
def endF (r : Int × Int) : Int := if r.2 = 0 then r.1 else 3652058
def usedF (st due : Int) (m l : List (Int × Int)) : List (Int × Int) := if due ≤ st then [] else l.filter (usedP st (endF (extF st due m)))

theorem filter_take {p : Int × Int → Bool} {l : List (Int × Int)} {k : Nat} (hk : k < l.length) : (l.take (k + 1)).filter p = (l.take k).filter p ++ (if p l[k] = true then [l[k]] else []) := by
  rw [List.take_succ_eq_append_getElem hk, List.filter_append]
  congr 1
  by_cases h : p l[k] = true
  · rw [if_pos h]; simp [h]
  · rw [if_neg h]; simp [h]

set_option maxHeartbeats 4000000 in
set_option maxRecDepth 100000 in
theorem used_any (l : List (Int × Int)) (v : Value) (st due : Int) (w : World) (hx : IsSps w v l) (hl : l.length ≤ 100000) (hb : SpB l) (hst : DayB st) (hdue : DayB due) :
    Calls Tryd.prog 17 #[.int .i64 st, .int .i64 due, v] w fun e w' => ∃ v', e = .returned v' ∧ ∃ l', (l'.Perm l ∧ l'.Pairwise (fun a b => a.1 ≤ b.1)) ∧ IsSps w' v' (usedF st due (mrgF l') l) ∧ Below w.heap.size w w' := by
  have HE := Lib.hid (extend_any l v st due w hx hl hb hst hdue)
  have HX := Lib.hid hx
  obtain ⟨a0, c0, rfl, -, -, -⟩ := hx.open
  clear hx hb hst hdue
  by_cases hle : due ≤ st
  · have HR : Hid (usedF st due (mrgF (l.mergeSort (fun a b => decide (a.1 ≤ b.1)))) l = []) := by show _ = _; unfold usedF; rw [if_pos hle]
    go_enter Tryd.func17, Tryd.ntmps17
    go_wp2_with fail
    go_ret
    exact ⟨_, rfl, _, sorted_perm l, by rw [HR.out]; exact IsSps.nil _ _ _, Below.refl _ _⟩
  · have hlt : st < due := by omega
    have HDU := Lib.hid hle
    clear hle
    go_enter Tryd.func17, Tryd.ntmps17
    go_wp2_with fail
    refine HE.out.mono ?_
    rintro e w1 ⟨x, y, rfl, l', hp, hxy, hb1⟩
    have HP := Lib.hid hp
    have HB1 := Lib.hid hb1
    have HX1 := Lib.hid (HX.out.below hb1)
    have HF : Hid (usedF st due (mrgF l') l = l.filter (usedP st (endF (x, y)))) := by show _ = _; unfold usedF; rw [if_neg (Int.not_le.2 hlt), hxy]
    clear hp hb1 hxy HE HX
    by_cases hy : y = 0
    · subst hy
      have HG : Hid (usedF st due (mrgF l') l = l.filter (usedP st x)) := by have h := HF.out; rw [show endF (x, 0) = x from rfl] at h; exact h
      clear HF
      go_wp2_with fail
      go_loopw [9, 26] (fun a i wr => ∃ (k : Nat) (v9 : Value) (out : List (Int × Int)), v9 = a ∧ i = .int .i64 k ∧ k ≤ l.length ∧ out.length ≤ k ∧ Hid (out = (l.take k).filter (usedP st x)) ∧ Hid (wr.ownsRow w1.heap.size 36 2 v9 out.length (spCells out)) ∧ w1.heap.size ≤ wr.heap.size ∧ Hid (Below w1.heap.size w1 wr)) (fun _ i _ => l.length - (intOf i).toNat)
      case atStart => exact ⟨0, _, [], rfl, rfl, Nat.zero_le _, Nat.le_refl _, Lib.hid rfl, Lib.hid (World.ownsRow_nil _ _ _ _), Nat.le_refl _, Lib.hid (Below.refl _ _)⟩
      case round =>
        obtain ⟨k, v9, out, rfl, rfl, hk, hok, HOUT, HOW, hsz, HBR⟩ := hrel
        by_cases hkl : k < l.length
        · obtain ⟨b5, o5, q5, e5, hlt5, d0, d1⟩ := (HX1.out.below HBR.out).at hkl
          simp only [Value.slice.injEq, true_and] at e5
          obtain ⟨rfl, -⟩ := e5
          have HT := filter_take (p := usedP st x) hkl
          rw [← HOUT.out] at HT
          have HTT := Lib.hid HT
          generalize l[k] = s at *
          obtain ⟨s1, s2⟩ := s
          simp only at d0 d1
          have hb1 : Below wr.heap.size wr (wr.alloc (.cells #[.int .i64 s1, .int .i64 s2] 36)) := (Below.refl _ _).alloc (Nat.le_refl _) _
          have HO1 := Lib.hid (owns_below HOW.out hb1)
          have HBR1 := Lib.hid (Below.to HBR.out hb1 hsz)
          have hs1 := HBR1.out.size
          obtain ⟨av, cv, rfl, -, -⟩ := owns_slice HO1.out
          clear hb1 HT HOUT
          by_cases hin : st < s2 ∧ s1 ≤ x
          · obtain ⟨hi1, hi2⟩ := hin
            have HO9k : Hid (out ++ [(s1, s2)] = (l.take (k + 1)).filter (usedP st x)) := by
              show _ = _
              rw [HTT.out, if_pos (by simp [usedP, hi1, hi2])]
            clear HTT
            have HLIT : Hid (Rd ((wr.alloc (.cells #[.int .i64 s1, .int .i64 s2] 36)).alloc (.cells (litSp (s1, s2)) 36)) (.slice (some ⟨wr.heap.size + 1, 0, none⟩) 1 1) 2 1 (spRow (s1, s2))) := by
              have h := Rd.lit (wr.alloc (.cells #[.int .i64 s1, .int .i64 s2] 36)) (litSp (s1, s2)) 36 2 1 rfl (by unfold maxLen; omega)
              rw [World.size_alloc] at h
              exact h
            go_wp2_with (at_builtin; go_must (refine wpList_append_rd rfl _ _ 32 rfl w1.heap.size 36 _ 2 16 Tryd.underlying32 infoSp rfl (by decide) (.slice av out.length cv) out.length (spCells out) rfl (owns_below HOW.out ?hb) _ 1 (spRow (s1, s2)) rfl HLIT.out (spCells_one [(s1, s2)]) ?b1 ?b2 ?b3 ?_))
            case hb => exact ((Below.refl _ _).alloc (Nat.le_refl _) _).alloc (by simp) _
            case b1 => unfold maxLen; omega
            case b2 => omega
            case b3 => simp; omega
            intro v8 w8 hv8 hg8
            have HB8 : Hid (Below w1.heap.size w1 w8) := by
              refine below_append (w := _) ?_ (owns_below HOW.out ?_) hg8 ?_
              rotate_left
              · exact ((Below.refl _ _).alloc (Nat.le_refl _) _).alloc (by simp) _
              · simp; omega
              · have := HBR.out
                refine Below.to this ?_ hsz
                exact ((Below.refl _ _).alloc (Nat.le_refl _) _).alloc (by simp) _
            have HO8 : Hid (w8.ownsRow w1.heap.size 36 2 v8 (out ++ [(s1, s2)]).length (spCells (out ++ [(s1, s2)]))) := by
              show World.ownsRow _ _ _ _ _ _ _
              rw [spCells_append, spCells_single]
              simpa using hv8
            have hs8 := HB8.out.size
            clear hv8 hg8
            go_wp2_with fail
            go_roundw
            case rel => exact ⟨k + 1, _, out ++ [(s1, s2)], rfl, by go_num, by omega, by rw [List.length_append, List.length_singleton]; omega, HO9k, HO8, hs8, HB8⟩
            case measure => simp [intOf]; omega
          · have HO9k : Hid (out = (l.take (k + 1)).filter (usedP st x)) := by
              show _ = _
              rw [HTT.out, if_neg (by simp [usedP]; omega), List.append_nil]
            clear HTT
            by_cases hi1 : st < s2
            · have hi2 : x < s1 := by omega
              clear hin
              go_wp2_with fail
              go_roundw
              case rel => exact ⟨k + 1, _, out, rfl, by go_num, by omega, by omega, HO9k, HO1, hs1, HBR1⟩
              case measure => simp [intOf]; omega
            · have hi2 : s2 ≤ st := by omega
              clear hin
              go_wp2_with fail
              go_roundw
              case rel => exact ⟨k + 1, _, out, rfl, by go_num, by omega, by omega, HO9k, HO1, hs1, HBR1⟩
              case measure => simp [intOf]; omega
        · obtain rfl : k = l.length := by omega
          have HR : Hid (IsSps wr v9 (usedF st due (mrgF l') l)) := by
            show IsSps _ _ _
            have h1 := HOUT.out
            rw [List.take_length] at h1
            rw [HG.out, ← h1]
            exact IsSps.of_owns HOW.out
          have HB9 := Lib.hid (Below.to HB1.out HBR.out HB1.out.size)
          clear HOUT HOW HBR
          go_wp2_with fail
          go_ret
          exact ⟨_, rfl, l', HP.out, HR.out, HB9.out⟩
    · have hyn : (y != 0) = true := by simpa using hy
      have HG : Hid (usedF st due (mrgF l') l = l.filter (usedP st 3652058)) := by have h := HF.out; rw [show endF (x, y) = 3652058 from if_neg hy] at h; exact h
      clear HF hy
      go_wp2_with fail
      go_loopw [9, 26] (fun a i wr => ∃ (k : Nat) (v9 : Value) (out : List (Int × Int)), v9 = a ∧ i = .int .i64 k ∧ k ≤ l.length ∧ out.length ≤ k ∧ Hid (out = (l.take k).filter (usedP st 3652058)) ∧ Hid (wr.ownsRow w1.heap.size 36 2 v9 out.length (spCells out)) ∧ w1.heap.size ≤ wr.heap.size ∧ Hid (Below w1.heap.size w1 wr)) (fun _ i _ => l.length - (intOf i).toNat)
      case atStart => exact ⟨0, _, [], rfl, rfl, Nat.zero_le _, Nat.le_refl _, Lib.hid rfl, Lib.hid (World.ownsRow_nil _ _ _ _), Nat.le_refl _, Lib.hid (Below.refl _ _)⟩
      case round =>
        obtain ⟨k, v9, out, rfl, rfl, hk, hok, HOUT, HOW, hsz, HBR⟩ := hrel
        by_cases hkl : k < l.length
        · obtain ⟨b5, o5, q5, e5, hlt5, d0, d1⟩ := (HX1.out.below HBR.out).at hkl
          simp only [Value.slice.injEq, true_and] at e5
          obtain ⟨rfl, -⟩ := e5
          have HT := filter_take (p := usedP st 3652058) hkl
          rw [← HOUT.out] at HT
          have HTT := Lib.hid HT
          generalize l[k] = s at *
          obtain ⟨s1, s2⟩ := s
          simp only at d0 d1
          have hb1 : Below wr.heap.size wr (wr.alloc (.cells #[.int .i64 s1, .int .i64 s2] 36)) := (Below.refl _ _).alloc (Nat.le_refl _) _
          have HO1 := Lib.hid (owns_below HOW.out hb1)
          have HBR1 := Lib.hid (Below.to HBR.out hb1 hsz)
          have hs1 := HBR1.out.size
          obtain ⟨av, cv, rfl, -, -⟩ := owns_slice HO1.out
          clear hb1 HT HOUT
          by_cases hin : st < s2 ∧ s1 ≤ 3652058
          · obtain ⟨hi1, hi2⟩ := hin
            have HO9k : Hid (out ++ [(s1, s2)] = (l.take (k + 1)).filter (usedP st 3652058)) := by
              show _ = _
              rw [HTT.out, if_pos (by simp [usedP, hi1, hi2])]
            clear HTT
            have HLIT : Hid (Rd ((wr.alloc (.cells #[.int .i64 s1, .int .i64 s2] 36)).alloc (.cells (litSp (s1, s2)) 36)) (.slice (some ⟨wr.heap.size + 1, 0, none⟩) 1 1) 2 1 (spRow (s1, s2))) := by
              have h := Rd.lit (wr.alloc (.cells #[.int .i64 s1, .int .i64 s2] 36)) (litSp (s1, s2)) 36 2 1 rfl (by unfold maxLen; omega)
              rw [World.size_alloc] at h
              exact h
            go_wp2_with (at_builtin; go_must (refine wpList_append_rd rfl _ _ 32 rfl w1.heap.size 36 _ 2 16 Tryd.underlying32 infoSp rfl (by decide) (.slice av out.length cv) out.length (spCells out) rfl (owns_below HOW.out ?hb) _ 1 (spRow (s1, s2)) rfl HLIT.out (spCells_one [(s1, s2)]) ?b1 ?b2 ?b3 ?_))
            case hb => exact ((Below.refl _ _).alloc (Nat.le_refl _) _).alloc (by simp) _
            case b1 => unfold maxLen; omega
            case b2 => omega
            case b3 => simp; omega
            intro v8 w8 hv8 hg8
            have HB8 : Hid (Below w1.heap.size w1 w8) := by
              refine below_append (w := _) ?_ (owns_below HOW.out ?_) hg8 ?_
              rotate_left
              · exact ((Below.refl _ _).alloc (Nat.le_refl _) _).alloc (by simp) _
              · simp; omega
              · have := HBR.out
                refine Below.to this ?_ hsz
                exact ((Below.refl _ _).alloc (Nat.le_refl _) _).alloc (by simp) _
            have HO8 : Hid (w8.ownsRow w1.heap.size 36 2 v8 (out ++ [(s1, s2)]).length (spCells (out ++ [(s1, s2)]))) := by
              show World.ownsRow _ _ _ _ _ _ _
              rw [spCells_append, spCells_single]
              simpa using hv8
            have hs8 := HB8.out.size
            clear hv8 hg8
            go_wp2_with fail
            go_roundw
            case rel => exact ⟨k + 1, _, out ++ [(s1, s2)], rfl, by go_num, by omega, by rw [List.length_append, List.length_singleton]; omega, HO9k, HO8, hs8, HB8⟩
            case measure => simp [intOf]; omega
          · have HO9k : Hid (out = (l.take (k + 1)).filter (usedP st 3652058)) := by
              show _ = _
              rw [HTT.out, if_neg (by simp [usedP]; omega), List.append_nil]
            clear HTT
            by_cases hi1 : st < s2
            · have hi2 : 3652058 < s1 := by omega
              clear hin
              go_wp2_with fail
              go_roundw
              case rel => exact ⟨k + 1, _, out, rfl, by go_num, by omega, by omega, HO9k, HO1, hs1, HBR1⟩
              case measure => simp [intOf]; omega
            · have hi2 : s2 ≤ st := by omega
              clear hin
              go_wp2_with fail
              go_roundw
              case rel => exact ⟨k + 1, _, out, rfl, by go_num, by omega, by omega, HO9k, HO1, hs1, HBR1⟩
              case measure => simp [intOf]; omega
        · obtain rfl : k = l.length := by omega
          have HR : Hid (IsSps wr v9 (usedF st due (mrgF l') l)) := by
            show IsSps _ _ _
            have h1 := HOUT.out
            rw [List.take_length] at h1
            rw [HG.out, ← h1]
            exact IsSps.of_owns HOW.out
          have HB9 := Lib.hid (Below.to HB1.out HBR.out HB1.out.size)
          clear HOUT HOW HBR
          go_wp2_with fail
          go_ret
          exact ⟨_, rfl, l', HP.out, HR.out, HB9.out⟩

end Go.Proofs.YtkcmkpljpmfiaaaDoor
