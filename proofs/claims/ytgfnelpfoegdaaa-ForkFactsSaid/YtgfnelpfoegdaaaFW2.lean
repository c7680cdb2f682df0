/-
  Contracts: slices.Clone at ints; the two clones of branches.
-/
import Derived.Test.YtgfnelpfoegdaaaBr
import Derived.Test.YtgfnelpfoegdaaaN03
namespace Go.Proofs.Ytgfnelpfoegdaaa
open Go.RowKit

theorem clone_ints (xs : List Int) (v : Value) (w : World) (hx : IsInts w v xs) (hb : xs.length ≤ 1000000) :
    Calls Try.prog 63 #[v] w fun e w' => ∃ v', e = .returned v' ∧ w'.ownsRow w.heap.size 3 1 v' xs.length (ints xs) ∧ Below w.heap.size w w' := by
  obtain ⟨a, cap, rfl, hlen, hcap, hc⟩ := hx.open
  unfold maxLen at hlen
  cases a with
  | none =>
    have h0 : xs = [] := by
      cases xs with
      | nil => rfl
      | cons x xs => obtain ⟨_, _, h, _⟩ := hc 0 (by simp); cases h
    subst h0
    have he := fun w : World => Lib.run_eql_slice_nil (P := Try.prog) w 23 3 none 0 cap 0 0 Try.underlying23
    go_enter Try.func63, Try.ntmps63
    go_wp2
    go_ret
    exact ⟨_, rfl, World.ownsRow_nil _ _ _ _, Below.refl _ _⟩
  | some ad =>
    have he := fun w : World => Lib.run_eql_slice_nil (P := Try.prog) w 23 3 (some ad) xs.length cap 0 0 Try.underlying23
    have HX := Lib.hid hx; clear hx hc
    go_enter Try.func63, Try.ntmps63
    go_wp2_with (at_builtin; refine wpList_append_rd rfl _ _ 23 rfl w.heap.size 3 _ 1 8 Try.underlying23 infoInt rfl (by decide) _ 0 [] rfl ?own _ xs.length (ints xs) rfl ?src (ints_one _) ?b1 ?b2 ?b3 ?_)
    case own => exact World.ownsRow_made w #[] 0 (Nat.le_refl _) (Nat.zero_le _) rfl
    case src => exact HX.out.below ((Below.refl _ _).alloc (Nat.le_refl _) _)
    case b1 => unfold maxLen; omega
    case b2 => omega
    case b3 => simp
    intro v' w1 hown hg
    have hbel : Below w.heap.size w w1 := below_append ((Below.refl _ _).alloc (Nat.le_refl _) _) (World.ownsRow_made w #[] 0 (Nat.le_refl _) (Nat.zero_le _) rfl : (w.alloc (.cells #[] 3)).ownsRow w.heap.size 3 1 _ 0 []) hg (by simp)
    have HO := Lib.hid (show w1.ownsRow w.heap.size 3 1 v' xs.length (ints xs) from by simpa using hown); clear hown hg
    have HB := Lib.hid hbel; clear hbel
    go_wp2
    go_ret
    exact ⟨_, rfl, HO.out, HB.out⟩

theorem infoBr : (Try.prog.info? 26).map (fun i => (i.zero, i.size, i.bytes)) = some (some (.agg #[.int .i64 0, .int .i64 0, .int .i64 0, .slice none 0 0, .bool false]), 5, 56) := by kernel_rfl

theorem forkClone (l : List Br) (v : Value) (w : World) (hx : IsBrs w v l) (hb : l.length ≤ 1000000) (ho : ∀ x ∈ l, x.own.length ≤ 1000000) :
    Calls Try.prog 51 #[v] w fun e w' => ∃ v' us, e = .returned v' ∧ OwnBrs w' w.heap.size 26 3 v' l us l.length ∧ Below w.heap.size w w' := by
  obtain ⟨us, hx⟩ := hx
  obtain ⟨a, cap, rfl, hlen, hcap, hc⟩ := hx.open
  unfold maxLen at hlen
  have HC := Lib.hid hc; clear hc
  have HX := Lib.hid hx; clear hx
  have hsz : (Try.prog.info? 26).map (·.size) = some 5 := by kernel_rfl
  have HSZ := Lib.hid hsz; clear hsz
  go_enter Try.func51, Try.ntmps51
  go_wp2_with (at_make; go_must (refine wpList_make_rd rfl _ _ 22 rfl w.heap.size 26 _ 5 56 Try.underlying22 infoBr _ _ l.length rfl rfl rfl rfl ?b0 ?b1 (Nat.le_refl _) ?_))
  case b0 => omega
  case b1 => unfold maxLen; omega
  intro w1 hown hg
  have hb1 : Below w.heap.size w w1 := (Below.refl _ _).grown hg (Nat.le_refl _) (fun k hk => by cases hk)
  have HO := Lib.hid hown; clear hown
  have HX1 := Lib.hid (HX.out.below hb1)
  clear hg
  have HB := Lib.hid hb1; clear hb1
  go_wp2_with (refine wpList_copy_whole rfl (.tmp 8) (.tmp 9) 22 22 rfl 26 5 Try.underlying22 HSZ.out w.heap.size 26 w.heap.size l.length l.length _ rfl HO.out _ (brCells l us) rfl HX1.out.2.1 (brCells_one _ _ HX1.out.ones) ?_)
  intro w2 hown2 hg2
  have hb2 : Below w.heap.size w w2 := HB.out.grown hg2 HB.out.size (fun k hk => by cases hk; exact Nat.le_refl _)
  have HO2 := Lib.hid hown2; clear hown2 hg2 HO HX1
  have HB2 := Lib.hid hb2; clear hb2 HB
  have hlt2 : w.heap.size < w2.heap.size := (HO2.out.lt _ rfl).2
  go_wp2_with fail
  go_loopw [4, 13] (fun _ c wr => ∃ (k : Nat) (us' : List Value), c = .int .i64 k ∧ k ≤ l.length ∧ w.heap.size < wr.heap.size ∧ Hid (OwnBrs wr w.heap.size 26 3 (.slice (some ⟨w.heap.size, 0, none⟩) l.length l.length) l us' k) ∧ Hid (Below w.heap.size w wr)) (fun _ c _ => l.length - (intOf c).toNat)
  case atStart => exact ⟨0, us, rfl, Nat.zero_le _, hlt2, Lib.hid ⟨HX.out.1, HO2.out, fun _ _ _ h => absurd h (Nat.not_lt_zero _), fun _ _ _ _ h => absurd h (Nat.not_lt_zero _)⟩, HB2⟩
  case round =>
    obtain ⟨k, us', rfl, hk, hsize, HOk, HBk⟩ := hrel
    by_cases hlt : k < l.length
    · obtain ⟨b, off, u, rfl, -, hu, -, -, -, c3, -⟩ := HC.out k hlt
      have hblt : b < w.heap.size := World.block_lt_of_cell? _ _ c3
      have c3' : wr.cell? ⟨b, off + k * 5 + 3, none⟩ = some u := by rw [HBk.out.cell hblt]; exact c3
      have HU := Lib.hid (hu.below HBk.out); clear hu c3
      have hown : l[k].own.length ≤ 1000000 := ho _ (List.getElem_mem hlt)
      go_wp2_with fail
      refine (clone_ints _ _ _ HU.out hown).mono ?_
      rintro e w3 ⟨u', rfl, hu', hb3⟩
      obtain ⟨ua, ucap, rfl, -, -⟩ := owns_slice hu'
      have hO3 := HOk.out.below hb3
      obtain ⟨x4, hc4⟩ : ∃ x, w3.cell? ⟨w.heap.size, k * 5 + 3, none⟩ = some x :=
        ⟨_, by rw [hO3.row.cellAt _ (by omega), brCells_get l us' hO3.len k 3 hlt (by omega)]; rfl⟩
      have hf4 : w3.frozen? ⟨w.heap.size, k * 5 + 3, none⟩ = false := hO3.row.frozenAt _
      have hs3 := hb3.size
      have HP := Lib.hid (OwnBrs.put (by decide) hO3 (C := wr.heap.size) (by omega) HOk.out.lt (by omega) hlt hu')
      have HB3 := Lib.hid ((Below.to HBk.out hb3 (by omega)).setCell (p := ⟨w.heap.size, k * 5 + 3, none⟩) (Nat.le_refl _) (.slice ua l[k].own.length ucap))
      clear hO3 hu' hb3 c3'
      go_wp2
      go_roundw
      case rel => exact ⟨k + 1, _, by go_num, by omega, by simp; omega, HP, HB3⟩
      case measure => simp [intOf]; omega
    · obtain rfl : k = l.length := by omega
      go_wp2
      go_ret
      exact ⟨_, _, rfl, HOk.out, HBk.out⟩

theorem refClone (l : List Br) (v : Value) (w : World) (hx : IsBrs w v l) (hb : l.length ≤ 1000000) (ho : ∀ x ∈ l, x.own.length ≤ 1000000) :
    Calls Try.prog 47 #[v] w fun e w' => ∃ v' us, e = .returned v' ∧ OwnBrs w' w.heap.size 26 3 v' l us l.length ∧ Below w.heap.size w w' := by
  obtain ⟨us, hx⟩ := hx
  obtain ⟨a, cap, rfl, hlen, hcap, hc⟩ := hx.open
  unfold maxLen at hlen
  have HC := Lib.hid hc; clear hc
  have HX := Lib.hid hx; clear hx
  go_enter Try.func47, Try.ntmps47
  go_wp2_with fail
  go_loopw [3, 4, 5] (fun o c _ wr => ∃ (k : Nat) (us' : List Value), c = .int .i64 k ∧ k ≤ l.length ∧ w.heap.size ≤ wr.heap.size ∧ Hid (OwnBrs wr w.heap.size 26 3 o (l.take k) us' (l.take k).length) ∧ Hid (Below w.heap.size w wr)) (fun _ c _ _ => l.length - (intOf c).toNat)
  case atStart => exact ⟨0, [], rfl, Nat.zero_le _, Nat.le_refl _, Lib.hid (OwnBrs.nil _ _ _ _), Below.refl _ _⟩
  case round =>
    obtain ⟨k, us', rfl, hk, hsize, HOk, HBk⟩ := hrel
    by_cases hlt : k < l.length
    · obtain ⟨b, off, u, rfl, -, hu, c0, c1, c2, c3, c4⟩ := HC.out k hlt
      have hblt : b < w.heap.size := World.block_lt_of_cell? _ _ c3
      have c0' : wr.cell? ⟨b, off + k * 5, none⟩ = some (.int .i64 l[k].parent) := by rw [HBk.out.cell hblt]; exact c0
      have c1' : wr.cell? ⟨b, off + k * 5 + 1, none⟩ = some (.int .i64 l[k].court) := by rw [HBk.out.cell hblt]; exact c1
      have c2' : wr.cell? ⟨b, off + k * 5 + 2, none⟩ = some (.int .i64 l[k].at_) := by rw [HBk.out.cell hblt]; exact c2
      have c3' : wr.cell? ⟨b, off + k * 5 + 3, none⟩ = some u := by rw [HBk.out.cell hblt]; exact c3
      have c4' : wr.cell? ⟨b, off + k * 5 + 4, none⟩ = some (.bool l[k].opn) := by rw [HBk.out.cell hblt]; exact c4
      obtain ⟨ua0, ucap0, rfl, ulen0, -, -⟩ := hu.open
      unfold maxLen at ulen0
      have HU := Lib.hid (hu.below HBk.out); clear hu c3 c0 c1 c2 c4
      have hown : l[k].own.length ≤ 1000000 := ho _ (List.getElem_mem hlt)
      go_wp2_with fail
      refine (ints_all _ _ _ (HU.out.below ((Below.refl _ _).alloc (Nat.le_refl _) _)) hown).mono ?_
      rintro e w3 ⟨u', rfl, hu', hb3⟩
      obtain ⟨ua, ucap, rfl, -, -⟩ := owns_slice hu'
      have hcc : ∀ o, w3.cell? ⟨wr.heap.size, o, none⟩ = (#[Value.int .i64 l[k].parent, .int .i64 l[k].court, .int .i64 l[k].at_, .slice ua0 l[k].own.length ucap0, .bool l[k].opn] : Array Value)[o]? := by
        intro o; rw [hb3.cell (by simp)]; simp
      have d0 := hcc 0
      have d1 := hcc 1
      have d2 := hcc 2
      have d3 := hcc 3
      have d4 := hcc 4
      have hf3 : w3.frozen? ⟨wr.heap.size, 3, none⟩ = false := by rw [hb3.frozen (by simp)]; simp
      simp at d0 d1 d2 d3 d4
      clear hcc
      have hs3 := hb3.size
      simp at hs3
      have HU3 := Lib.hid hu'; clear hu'
      have HB3 := Lib.hid hb3; clear hb3
      have hbW : Below wr.heap.size wr w3 := Below.to ((Below.refl _ _).alloc (Nat.le_refl _) _) HB3.out (by simp)
      have HBW := Lib.hid hbW; clear hbW
      have HTK := Lib.hid (show (l.take k).length = k by rw [List.length_take]; omega)
      go_wp2_with (at_builtin; go_must (refine wpList_append_rd rfl _ _ 22 rfl w.heap.size 26 _ 5 56 Try.underlying22 infoBr rfl (by decide) u3 (l.take k).length (brCells (l.take k) us') rfl ?own _ 1 (brRow l[k] (.slice ua l[k].own.length ucap)) rfl ?src ?one ?b1 ?b2 ?b3 ?_))
      case own => exact (HOk.out.below ((HBW.out.setCell (Nat.le_refl _) _).alloc (by simp; omega) _)).row
      case src =>
        have := Rd.lit (w3.setCell ⟨wr.heap.size, 3, none⟩ (.slice ua l[k].own.length ucap)) #[Value.int .i64 l[k].parent, .int .i64 l[k].court, .int .i64 l[k].at_, .slice ua l[k].own.length ucap, .bool l[k].opn] 26 5 1 rfl (by unfold maxLen; omega)
        rw [World.size_setCell] at this
        exact this
      case one => exact brRow_one _ rfl
      case b1 => rw [HTK.out]; unfold maxLen; omega
      case b2 => rw [HTK.out]; omega
      case b3 => simp; omega
      intro v' w4 hv' hg4
      have hW := (HBW.out.setCell (p := ⟨wr.heap.size, 3, none⟩) (Nat.le_refl _) (.slice ua l[k].own.length ucap)).alloc (by simp; omega) (.cells #[Value.int .i64 l[k].parent, .int .i64 l[k].court, .int .i64 l[k].at_, .slice ua l[k].own.length ucap, .bool l[k].opn] 26)
      have hO := HOk.out.below hW
      have hu4 := (owns_setCell HU3.out (a := ⟨wr.heap.size, 3, none⟩) (by simp) (.slice ua l[k].own.length ucap)).alloc (.cells #[Value.int .i64 l[k].parent, .int .i64 l[k].court, .int .i64 l[k].at_, .slice ua l[k].own.length ucap, .bool l[k].opn] 26)
      have hv2 : w4.ownsRow w.heap.size 26 5 v' ((l.take k).length + 1) (brCells (l.take k) us' ++ brRow l[k] (.slice ua l[k].own.length ucap)) := by rw [HTK.out]; exact hv'
      have hsz4 : w.heap.size ≤ w4.heap.size := by have := hg4.size; simp at this; omega
      have hP := OwnBrs.push (x := l[k]) (by decide) hO (fun i hi b hb => Nat.lt_of_lt_of_le (HOk.out.lt i hi (by rw [← hO.len]; exact hi) b hb) (by simp)) (by simp; omega) hu4 hv2 hg4
      rw [← List.take_succ_eq_append_getElem hlt, show (l.take k).length + 1 = (l.take (k + 1)).length from by rw [List.length_take, List.length_take]; omega] at hP
      have hB4 := below_append (Below.to HBk.out hW hsize) hO.row hg4 (by simp; omega)
      have HP := Lib.hid hP
      have HB4 := Lib.hid hB4
      clear hP hB4 hu4 hO hW hv' hv2 hg4 HBW HU3 HB3
      go_wp2
      go_roundw
      case rel => exact ⟨k + 1, _, by go_num, by omega, hsz4, HP, HB4⟩
      case measure => simp [intOf]; omega
    · obtain rfl : k = l.length := by omega
      go_wp2
      go_ret
      have := HOk.out
      rw [List.take_length] at this
      exact ⟨_, _, rfl, this, HBk.out⟩

end Go.Proofs.Ytgfnelpfoegdaaa
