/-
  The reference's end and Merge: Merge returns the merged spans. (put together by wip/tools/assemble.py)
-/
import Derived.Test.YtbiedadgejgnoaaSpK
namespace Go.Proofs.Ytbiedadgejgnoaa
open Go.RowKit



theorem endStep_B {s : Int × Int} {x : Int} (hs : -1000000000000 ≤ s.2 ∧ s.2 ≤ 1000000000000) (hx : DayB x) : DayB (endStep s x) := by
  unfold DayB endStep at *
  split <;> omega
theorem endIt_B {l : List (Int × Int)} {x : Int} (hb : SpB l) (hx : DayB x) (n : Nat) : DayB (endIt l n x) := by
  obtain ⟨-, -, -, h | ⟨s, hs, h⟩⟩ := endIt_law l x n
  · rw [h]; exact hx
  · rw [h]; have := hb s hs; unfold DayB; omega

set_option maxHeartbeats 2000000 in
theorem end_any (l : List (Int × Int)) (v : Value) (day : Int) (w : World) (hx : IsSps w v l) (hl : l.length ≤ 100000) (hb : SpB l) (hd : DayB day) :
    Calls Try.prog 64 #[v, .int .i64 day] w fun e w' => e = .returned (.int .i64 (endIt l l.length day)) ∧ w = w' := by
  have HX := Lib.hid hx
  have HB := Lib.hid hb
  have HD := Lib.hid hd
  obtain ⟨a0, c0, rfl, -, -, -⟩ := hx.open
  clear hx hb hd
  go_enter Try.func64, Try.ntmps64
  go_wp2_with fail
  go_loop [5, 6] (fun a i => ∃ (n : Nat) (x : Int), a = .int .i64 x ∧ i = .int .i64 n ∧ n ≤ l.length ∧ Hid (DayB x) ∧ Hid (x = endIt l n day)) (fun _ i => l.length - (intOf i).toNat)
  case atStart => exact ⟨0, day, rfl, rfl, Nat.zero_le _, HD, Lib.hid rfl⟩
  case round =>
    obtain ⟨n, x, rfl, rfl, hn, HXB, HXE⟩ := hrel
    by_cases hnl : n < l.length
    · go_wp2_with fail
      go_loop [5, 7] (fun a i => ∃ (k : Nat) (y : Int), a = .int .i64 y ∧ i = .int .i64 k ∧ k ≤ l.length ∧ Hid (DayB y) ∧ Hid (y = endPass (l.take k) x)) (fun _ i => l.length - (intOf i).toNat)
      case atStart => exact ⟨0, x, rfl, rfl, Nat.zero_le _, HXB, Lib.hid rfl⟩
      case round =>
        obtain ⟨k, y, rfl, rfl, hk, HYB, HYE⟩ := hrel
        have hyB := HYB.out
        unfold DayB at hyB
        obtain ⟨hy1, hy2⟩ := hyB
        by_cases hkl : k < l.length
        · obtain ⟨b5, o5, q5, e5, -, d0, d1⟩ := HX.out.at hkl
          simp only [Value.slice.injEq, true_and] at e5
          obtain ⟨rfl, -⟩ := e5
          have hsB := HB.out l[k] (List.getElem_mem hkl)
          have HT : Hid (endPass (l.take (k + 1)) x = endStep l[k] y) := by show _ = _; rw [endPass_take hkl, ← HYE.out]
          have HTB : Hid (DayB (endStep l[k] y)) := endStep_B ⟨hsB.2.2.1, hsB.2.2.2⟩ HYB.out
          generalize l[k] = s at *
          obtain ⟨s1, s2⟩ := s
          simp only at d0 d1 hsB
          have hwp : IntKind.i64.wrap (y + 1) = y + 1 := by rw [IntKind.wrap_i64]; omega
          clear HYE
          by_cases h1 : s1 ≤ y + 1
          · by_cases h2 : y < s2
            · have e : endStep (s1, s2) y = s2 := if_pos ⟨h1, h2⟩
              have HR : Hid (s2 = endPass (l.take (k + 1)) x) := by show _ = _; rw [HT.out, e]
              have HRB : Hid (DayB s2) := by have h := HTB.out; rw [e] at h; exact h
              clear e HT HTB
              go_wp2_with fail
              go_round
              case rel => exact ⟨k + 1, s2, rfl, by go_num, by omega, HRB, HR⟩
              case measure => simp [intOf]; omega
            · have e : endStep (s1, s2) y = y := if_neg (by simp only; omega)
              have HR : Hid (y = endPass (l.take (k + 1)) x) := by show _ = _; rw [HT.out, e]
              have h3 : s2 ≤ y := by omega
              clear e HT HTB h2
              go_wp2_with fail
              go_round
              case rel => exact ⟨k + 1, y, rfl, by go_num, by omega, HYB, HR⟩
              case measure => simp [intOf]; omega
          · have e : endStep (s1, s2) y = y := if_neg (by simp only; omega)
            have HR : Hid (y = endPass (l.take (k + 1)) x) := by show _ = _; rw [HT.out, e]
            have h3 : y + 1 < s1 := by omega
            clear e HT HTB h1
            go_wp2_with fail
            go_round
            case rel => exact ⟨k + 1, y, rfl, by go_num, by omega, HYB, HR⟩
            case measure => simp [intOf]; omega
        · obtain rfl : k = l.length := by omega
          have HR : Hid (y = endIt l (n + 1) day) := by
            show _ = _
            rw [HYE.out, List.take_length, HXE.out]
            rfl
          clear HYE HXE
          go_wp2_with fail
          go_round
          case rel => exact ⟨n + 1, y, rfl, by go_num, by omega, HYB, HR⟩
          case measure => simp [intOf]; omega
    · obtain rfl : n = l.length := by omega
      go_wp2_with fail
      go_ret
      exact ⟨ret_int HXE.out, rfl⟩

set_option maxHeartbeats 4000000 in
set_option maxRecDepth 100000 in
theorem refMerge_any (l : List (Int × Int)) (v : Value) (w : World) (hx : IsSps w v l) (hl : l.length ≤ 100000) (hb : SpB l) (hv : ValSp l) (h0 : ∀ s ∈ l, 0 ≤ s.1) :
    Calls Try.prog 37 #[v] w fun e w' => ∃ v', e = .returned v' ∧ IsSps w' v' (mrg l) ∧ Below w.heap.size w w' := by
  have HX := Lib.hid hx
  have HB := Lib.hid hb
  have HV := Lib.hid hv
  have H0 := Lib.hid (RmAt.start h0)
  obtain ⟨a0, c0, rfl, -, -, -⟩ := hx.open
  clear hx hb hv h0
  go_enter Try.func37, Try.ntmps37
  go_wp2_with fail
  go_loopw [3, 4, 5] (fun a f i wr => ∃ (n : Nat) (v3 : Value) (out : List (Int × Int)) (fr : Int), v3 = a ∧ f = .int .i64 fr ∧ i = .int .i64 n ∧ n ≤ l.length ∧ out.length ≤ n ∧ Hid (RmAt l out fr n) ∧ Hid (wr.ownsRow w.heap.size 44 2 v3 out.length (spCells out)) ∧ w.heap.size ≤ wr.heap.size ∧ Hid (Below w.heap.size w wr)) (fun _ _ i _ => l.length - (intOf i).toNat)
  case atStart => exact ⟨0, _, [], -1, rfl, rfl, rfl, Nat.zero_le _, Nat.le_refl _, H0, Lib.hid (World.ownsRow_nil _ _ _ _), Nat.le_refl _, Lib.hid (Below.refl _ _)⟩
  case round =>
    obtain ⟨n, v3, out, fr, rfl, rfl, rfl, hn, hon, HRM, HOW, hsz, HBR⟩ := hrel
    by_cases hnl : n < l.length
    · obtain ⟨wo, rfl⟩ : ∃ wo : World, wo = wr := ⟨_, rfl⟩
      have HX1 := Lib.hid (HX.out.below HBR.out)
      go_wp2_with fail
      go_loopw [6, 7] (fun b i wr => ∃ (k : Nat) (best : Int), b = .int .i64 best ∧ i = .int .i64 k ∧ k ≤ l.length ∧ Hid (BestAt l fr k best) ∧ wo.heap.size ≤ wr.heap.size ∧ Hid (Below wo.heap.size wo wr)) (fun _ i _ => l.length - (intOf i).toNat)
      case atStart => exact ⟨0, -1, rfl, rfl, Nat.zero_le _, Lib.hid (BestAt.zero _ _), Nat.le_refl _, Lib.hid (Below.refl _ _)⟩
      case round =>
        obtain ⟨k, best, rfl, rfl, hk, HBA, hsr, HBW⟩ := hrel
        by_cases hkl : k < l.length
        · have HX2 := Lib.hid (HX1.out.below HBW.out)
          obtain ⟨b5, o5, q5, e5, -, d0, -⟩ := HX2.out.at hkl
          simp only [Value.slice.injEq, true_and] at e5
          obtain ⟨rfl, -⟩ := e5
          by_cases h1 : fr < l[k].1
          · rcases HBA.out.get with rfl | ⟨b, rfl, hbk, hbl⟩
            · have HN := Lib.hid (BestAt.first HBA.out hkl h1)
              generalize l[k] = s at *
              obtain ⟨s1, s2⟩ := s
              simp only at d0 h1
              clear HBA
              go_wp2_with fail
              go_quiet (fail)
              all_goals
                have HB9 := Lib.hid (below_drewN HBW.out nq)
                have hs9 := HB9.out.size
                go_wp2_with fail
                go_roundw
                case rel => exact ⟨k + 1, (k : Int), rfl, by go_num, by omega, HN, hs9, HB9⟩
                case measure => simp [intOf]; omega
            · obtain ⟨b6, o6, q6, e6, -, f0, -⟩ := HX2.out.at hbl
              simp only [Value.slice.injEq, true_and, Option.some.injEq, Addr.mk.injEq, and_true] at e6
              obtain ⟨⟨rfl, rfl⟩, -⟩ := e6
              by_cases h2 : l[k].1 < l[b].1
              · have HN := Lib.hid (BestAt.better HBA.out hkl hbl h1 h2)
                generalize l[k] = s at *
                generalize l[b] = t at *
                obtain ⟨s1, s2⟩ := s
                obtain ⟨t1, t2⟩ := t
                simp only at d0 f0 h1 h2
                clear HBA
                go_wp2_with fail
                go_quiet (fail)
                all_goals
                  have HB9 := Lib.hid (below_drewN HBW.out nq)
                  have hs9 := HB9.out.size
                  go_wp2_with fail
                  go_roundw
                  case rel => exact ⟨k + 1, (k : Int), rfl, by go_num, by omega, HN, hs9, HB9⟩
                  case measure => simp [intOf]; omega
              · have HN := Lib.hid (BestAt.worse HBA.out hkl hbl h2)
                generalize l[k] = s at *
                generalize l[b] = t at *
                obtain ⟨s1, s2⟩ := s
                obtain ⟨t1, t2⟩ := t
                simp only at d0 f0 h1 h2
                have h3 : t1 ≤ s1 := by omega
                clear HBA h2
                go_wp2_with fail
                go_quiet (fail)
                all_goals
                  have HB9 := Lib.hid (below_drewN HBW.out nq)
                  have hs9 := HB9.out.size
                  go_wp2_with fail
                  go_roundw
                  case rel => exact ⟨k + 1, (b : Int), rfl, by go_num, by omega, HN, hs9, HB9⟩
                  case measure => simp [intOf]; omega
          · have HN := Lib.hid (BestAt.skip HBA.out hkl (by omega))
            generalize l[k] = s at *
            obtain ⟨s1, s2⟩ := s
            simp only at d0 h1
            have h3 : s1 ≤ fr := by omega
            have h4 : decide (fr < s1) = false := by simp; omega
            clear HBA h1
            go_wp2_with fail
            go_quiet (fail)
            all_goals
              have HB9 := Lib.hid (below_drewN HBW.out nq)
              have hs9 := HB9.out.size
              go_wp2_with fail
              go_roundw
              case rel => exact ⟨k + 1, best, rfl, by go_num, by omega, HN, hs9, HB9⟩
              case measure => simp [intOf]; omega
        · obtain rfl : k = l.length := by omega
          have HB8 := Lib.hid (Below.to HBR.out HBW.out hsz)
          have HO8 := Lib.hid (owns_below HOW.out HBW.out)
          have hs8 := HB8.out.size
          rcases HBA.out.get with rfl | ⟨b, rfl, hbk, hbl⟩
          · have HN := Lib.hid (RmAt.none HRM.out HBA.out)
            clear HBA HRM HBW HBR HOW
            go_wp2_with fail
            go_roundw
            case rel => exact ⟨n + 1, _, out, fr, rfl, rfl, by go_num, by omega, by omega, HN, HO8, hs8, HB8⟩
            case measure => simp [intOf]; omega
          · have HN := Lib.hid (RmAt.some HRM.out HV.out hbl HBA.out)
            have hsB := HB.out l[b] (List.getElem_mem hbl)
            have HX2 := Lib.hid (HX1.out.below HBW.out)
            have HE := Lib.hid (end_any l _ l[b].1 wr HX2.out hl HB.out ⟨hsB.1, hsB.2.1⟩)
            obtain ⟨b5, o5, q5, e5, -, d0, -⟩ := HX2.out.at hbl
            simp only [Value.slice.injEq, true_and] at e5
            obtain ⟨rfl, -⟩ := e5
            generalize l[b].1 = s1 at *
            generalize endIt l l.length s1 = E at *
            obtain ⟨av, cv, rfl, -, -⟩ := owns_slice HO8.out
            have HLIT : Hid (∀ W : World, Rd (W.alloc (.cells (litSp (s1, E)) 44)) (.slice (some ⟨W.heap.size, 0, none⟩) 1 1) 2 1 (spRow (s1, E))) := fun W => Rd.lit W (litSp (s1, E)) 44 2 1 rfl (by unfold maxLen; omega)
            clear HBA HRM HBW HBR HOW HX2
            go_wp2_with fail
            refine HE.out.mono ?_
            rintro e w' ⟨rfl, rfl⟩
            go_wp2_with (at_builtin; go_must (refine wpList_append_rd rfl _ _ 33 rfl w.heap.size 44 _ 2 16 Try.underlying33 infoSp rfl (by decide) (.slice av out.length cv) out.length (spCells out) rfl (owns_below HO8.out ?GHB) _ 1 (spRow (s1, E)) rfl (HLIT.out _) (spCells_one [(s1, E)]) ?GB1 ?GB2 ?GB3 ?_))
            case GHB => exact (Below.refl _ _).alloc (Nat.le_refl _) _
            case GB1 => unfold maxLen; omega
            case GB2 => omega
            case GB3 => simp; omega
            intro v9 w9 hv9 hg9
            have hb9 := below_append (Below.to HB8.out ((Below.refl _ _).alloc (Nat.le_refl _) _) hs8) (owns_below HO8.out ((Below.refl _ _).alloc (Nat.le_refl _) _)) hg9 (by simp; omega)
            have HB9 := Lib.hid hb9
            have HO9 : Hid (w9.ownsRow w.heap.size 44 2 v9 (out ++ [(s1, E)]).length (spCells (out ++ [(s1, E)]))) := by
              show World.ownsRow _ _ _ _ _ _ _
              rw [spCells_append, spCells_single, List.length_append, List.length_singleton]
              exact hv9
            have hs9 := hb9.size
            clear hv9 hg9 hb9
            go_wp2_with fail
            go_roundw
            case rel => exact ⟨n + 1, _, out ++ [(s1, E)], E, rfl, rfl, by go_num, by omega, by rw [List.length_append, List.length_singleton]; omega, HN, HO9, by simpa using hs9, HB9⟩
            case measure => simp [intOf]; omega
    · obtain rfl : n = l.length := by omega
      have HR : Hid (IsSps wr v3 (mrg l)) := by
        show IsSps _ _ _
        rw [← HRM.out.done HV.out]
        exact IsSps.of_owns HOW.out
      clear HRM HOW
      go_wp2_with fail
      go_ret
      exact ⟨_, rfl, HR.out, HBR.out⟩


end Go.Proofs.Ytbiedadgejgnoaa
