/-
  The copies of attempts of the reference.
-/
import Derived.Test.YtdhiefgbajogcaaSvD
import Derived.Test.YtdhiefgbajogcaaLO2
namespace Go.Proofs.Ytdhiefgbajogcaa
open Go.RowKit

theorem five_of {W : World} {B T : Nat} {a0 a1 a2 a3 a4 : Value} (h : W.heap[B]? = some (.cells #[a0, a1, a2, a3, a4] T)) :
    (W.cell? ⟨B, 0, none⟩ = some a0 ∧ W.cell? ⟨B, 1, none⟩ = some a1 ∧ W.cell? ⟨B, 2, none⟩ = some a2 ∧ W.cell? ⟨B, 3, none⟩ = some a3 ∧ W.cell? ⟨B, 4, none⟩ = some a4) ∧ ∀ i, W.frozen? ⟨B, i, none⟩ = false := by
  refine ⟨⟨?_, ?_, ?_, ?_, ?_⟩, fun i => ?_⟩
  · simp [World.cell?, h]
  · simp [World.cell?, h]
  · simp [World.cell?, h]
  · simp [World.cell?, h]
  · simp [World.cell?, h]
  · simp [World.frozen?, h]

set_option maxHeartbeats 1000000 in
set_option maxRecDepth 100000 in
theorem refCopy (a : At) (more : List Ret) (u m : Value) (w : World) (hu : IsRts w u a.own) (hm : IsRts w m more) (hl : a.own.length ≤ 1000000) (hl2 : more.length ≤ 1000000) :
    Calls Try.prog 39 #[.agg #[.int .i64 a.ent, .int .i64 a.par, .int .i64 a.car, .int .i64 a.sent, u], m] w fun e w' => ∃ u', e = .returned (.agg #[.int .i64 a.ent, .int .i64 a.par, .int .i64 a.car, .int .i64 a.sent, u']) ∧
      w'.ownsRow w.heap.size 37 4 u' (a.own ++ more).length (rtCells (a.own ++ more)) ∧ Below w.heap.size w w' := by
  obtain ⟨ae, ap, ac, an, ow⟩ := a
  simp only at hu hl ⊢
  obtain ⟨W0, hW0⟩ : ∃ W0, W0 = (w.alloc (.cells #[.int .i64 ae, .int .i64 ap, .int .i64 ac, .int .i64 an, u] 29)).alloc (.cells #[.int .i64 0, .int .i64 0, .int .i64 0, .int .i64 0, .slice none 0 0] 29) := ⟨_, rfl⟩
  have hb0 : Below w.heap.size w W0 := by rw [hW0]; exact ((Below.refl _ _).alloc (Nat.le_refl _) _).alloc (by simp) _
  have hz0 : W0.heap.size = w.heap.size + 2 := by rw [hW0]; simp
  have hA : W0.heap[w.heap.size]? = some (.cells #[.int .i64 ae, .int .i64 ap, .int .i64 ac, .int .i64 an, u] 29) := by
    rw [hW0]
    exact (Below.heap_alloc _ _ _ (by simp)).trans (heap_alloc_new w _)
  have hZ : W0.heap[w.heap.size + 1]? = some (.cells #[.int .i64 0, .int .i64 0, .int .i64 0, .int .i64 0, .slice none 0 0] 29) := by
    have h := heap_alloc_new (w.alloc (.cells #[.int .i64 ae, .int .i64 ap, .int .i64 ac, .int .i64 an, u] 29)) (.cells #[.int .i64 0, .int .i64 0, .int .i64 0, .int .i64 0, .slice none 0 0] 29)
    rw [World.size_alloc] at h
    rw [hW0]
    exact h
  have HU := Lib.hid (hu.below hb0)
  have HM := Lib.hid (hm.below hb0)
  have HWE := Lib.hid hW0
  have HA := Lib.hid hA
  have HZ := Lib.hid hZ
  have HB0 := Lib.hid hb0
  have HSZ := Lib.hid hz0
  obtain ⟨ua, uc, rfl, -, -⟩ := hu.open
  obtain ⟨ma, mc, rfl, -, -⟩ := hm.open
  obtain ⟨⟨-, -, -, -, g4⟩, -⟩ := five_of hA
  clear hu hm hW0 hb0 hA hZ hz0
  go_enter Try.func39, Try.ntmps39
  have HV0 : Hid (W0.ownsRow W0.heap.size 37 4 (.slice none 0 0) 0 []) := World.ownsRow_nil _ _ _ _
  go_wp2_with (at_builtin; go_must (rw [← HWE.out]; refine wpList_append_rd rfl _ _ 27 rfl W0.heap.size 37 _ 4 32 Try.underlying27 infoRt rfl (by decide) (.slice none 0 0) 0 [] rfl HV0.out _ ow.length (rtCells ow) rfl HU.out (rtCells_one ow) ?b1 ?b2 (Nat.le_refl _) ?_))
  case b1 => unfold maxLen; omega
  case b2 => omega
  intro v3 w3 hv3 hg3
  have HB3 := Lib.hid (below_append (Below.refl W0.heap.size W0) HV0.out hg3 (Nat.le_refl _))
  have HO3 : Hid (w3.ownsRow W0.heap.size 37 4 v3 ow.length (rtCells ow)) := by show World.ownsRow _ _ _ _ _ _ _; simpa using hv3
  obtain ⟨a3, c3, rfl, -, -⟩ := owns_slice HO3.out
  clear hv3 hg3 HV0
  go_wp2_with (at_builtin; go_must (refine wpList_append_rd rfl _ _ 27 rfl W0.heap.size 37 _ 4 32 Try.underlying27 infoRt rfl (by decide) (.slice a3 ow.length c3) ow.length (rtCells ow) rfl HO3.out _ more.length (rtCells more) rfl (HM.out.below HB3.out) (rtCells_one more) ?d1 ?d2 HB3.out.size ?_))
  case d1 => unfold maxLen; omega
  case d2 => omega
  intro v4 w4 hv4 hg4
  have hb4 := below_append HB3.out HO3.out hg4 HB3.out.size
  have HB4 := Lib.hid hb4
  obtain ⟨a4, c4, rfl, -, -⟩ := owns_slice hv4
  have HO4 := Lib.hid hv4
  obtain ⟨S, hS⟩ : ∃ S, S = w.heap.size := ⟨_, rfl⟩
  have hsz := HSZ.out
  have hs4 := hb4.size
  have hA4 : w4.heap[S]? = some (.cells #[.int .i64 ae, .int .i64 ap, .int .i64 ac, .int .i64 an, .slice ua ow.length uc] 29) := by rw [hS]; exact (hb4.block _ (by omega)).trans HA.out
  have hZ4 : w4.heap[S + 1]? = some (.cells #[.int .i64 0, .int .i64 0, .int .i64 0, .int .i64 0, .slice none 0 0] 29) := by rw [hS]; exact (hb4.block _ (by omega)).trans HZ.out
  obtain ⟨⟨-, -, -, -, y4⟩, yf⟩ := five_of hA4
  have yf4 := yf 4
  have hA5 : (w4.setCell ⟨S, 4, none⟩ (.slice a4 (ow.length + more.length) c4)).heap[S]? = some (.cells #[.int .i64 ae, .int .i64 ap, .int .i64 ac, .int .i64 an, .slice a4 (ow.length + more.length) c4] 29) := heap_setCell_same w4 S 4 _ _ _ hA4
  have hZ0 : (w4.setCell ⟨S, 4, none⟩ (.slice a4 (ow.length + more.length) c4)).heap[S + 1]? = some (.cells #[.int .i64 0, .int .i64 0, .int .i64 0, .int .i64 0, .slice none 0 0] 29) := (heap_setCell_other w4 ⟨S, 4, none⟩ (S + 1) _ (by simp)).trans hZ4
  obtain ⟨⟨c0, c1, c2, c3', c4'⟩, -⟩ := five_of hA5
  have hZ1 : ((w4.setCell ⟨S, 4, none⟩ (.slice a4 (ow.length + more.length) c4)).setCell ⟨S + 1, 0, none⟩ (.int .i64 ae)).heap[S + 1]? = some (.cells #[.int .i64 ae, .int .i64 0, .int .i64 0, .int .i64 0, .slice none 0 0] 29) := heap_setCell_same _ (S + 1) 0 _ _ _ hZ0
  have hZ2 : (((w4.setCell ⟨S, 4, none⟩ (.slice a4 (ow.length + more.length) c4)).setCell ⟨S + 1, 0, none⟩ (.int .i64 ae)).setCell ⟨S + 1, 1, none⟩ (.int .i64 ap)).heap[S + 1]? = some (.cells #[.int .i64 ae, .int .i64 ap, .int .i64 0, .int .i64 0, .slice none 0 0] 29) := heap_setCell_same _ (S + 1) 1 _ _ _ hZ1
  have hZ3 : ((((w4.setCell ⟨S, 4, none⟩ (.slice a4 (ow.length + more.length) c4)).setCell ⟨S + 1, 0, none⟩ (.int .i64 ae)).setCell ⟨S + 1, 1, none⟩ (.int .i64 ap)).setCell ⟨S + 1, 2, none⟩ (.int .i64 ac)).heap[S + 1]? = some (.cells #[.int .i64 ae, .int .i64 ap, .int .i64 ac, .int .i64 0, .slice none 0 0] 29) := heap_setCell_same _ (S + 1) 2 _ _ _ hZ2
  have hZ4 : (((((w4.setCell ⟨S, 4, none⟩ (.slice a4 (ow.length + more.length) c4)).setCell ⟨S + 1, 0, none⟩ (.int .i64 ae)).setCell ⟨S + 1, 1, none⟩ (.int .i64 ap)).setCell ⟨S + 1, 2, none⟩ (.int .i64 ac)).setCell ⟨S + 1, 3, none⟩ (.int .i64 an)).heap[S + 1]? = some (.cells #[.int .i64 ae, .int .i64 ap, .int .i64 ac, .int .i64 an, .slice none 0 0] 29) := heap_setCell_same _ (S + 1) 3 _ _ _ hZ3
  have hZ5 : ((((((w4.setCell ⟨S, 4, none⟩ (.slice a4 (ow.length + more.length) c4)).setCell ⟨S + 1, 0, none⟩ (.int .i64 ae)).setCell ⟨S + 1, 1, none⟩ (.int .i64 ap)).setCell ⟨S + 1, 2, none⟩ (.int .i64 ac)).setCell ⟨S + 1, 3, none⟩ (.int .i64 an)).setCell ⟨S + 1, 4, none⟩ (.slice a4 (ow.length + more.length) c4)).heap[S + 1]? = some (.cells #[.int .i64 ae, .int .i64 ap, .int .i64 ac, .int .i64 an, .slice a4 (ow.length + more.length) c4] 29) := heap_setCell_same _ (S + 1) 4 _ _ _ hZ4
  obtain ⟨⟨p0, -, -, -, -⟩, qf0⟩ := five_of hZ0
  have q0 := qf0 0
  obtain ⟨⟨-, p1, -, -, -⟩, qf1⟩ := five_of hZ1
  have q1 := qf1 1
  obtain ⟨⟨-, -, p2, -, -⟩, qf2⟩ := five_of hZ2
  have q2 := qf2 2
  obtain ⟨⟨-, -, -, p3, -⟩, qf3⟩ := five_of hZ3
  have q3 := qf3 3
  obtain ⟨⟨-, -, -, -, p4⟩, qf4⟩ := five_of hZ4
  have q4 := qf4 4
  obtain ⟨⟨r0, r1, r2, r3, r4⟩, -⟩ := five_of hZ5
  have HB5 : Hid (Below S w ((((((w4.setCell ⟨S, 4, none⟩ (.slice a4 (ow.length + more.length) c4)).setCell ⟨S + 1, 0, none⟩ (.int .i64 ae)).setCell ⟨S + 1, 1, none⟩ (.int .i64 ap)).setCell ⟨S + 1, 2, none⟩ (.int .i64 ac)).setCell ⟨S + 1, 3, none⟩ (.int .i64 an)).setCell ⟨S + 1, 4, none⟩ (.slice a4 (ow.length + more.length) c4))) := by
    show Below _ _ _
    have hb := (Below.to HB0.out hb4 (by omega)).setCell (p := ⟨w.heap.size, 4, none⟩) (Nat.le_refl _) (.slice a4 (ow.length + more.length) c4)
    rw [← hS] at hb
    exact ((((hb.setCell (p := ⟨S + 1, 0, none⟩) (Nat.le_succ _) _).setCell (p := ⟨S + 1, 1, none⟩) (Nat.le_succ _) _).setCell (p := ⟨S + 1, 2, none⟩) (Nat.le_succ _) _).setCell (p := ⟨S + 1, 3, none⟩) (Nat.le_succ _) _).setCell (p := ⟨S + 1, 4, none⟩) (Nat.le_succ _) _
  have HO5 : Hid (((((((w4.setCell ⟨S, 4, none⟩ (.slice a4 (ow.length + more.length) c4)).setCell ⟨S + 1, 0, none⟩ (.int .i64 ae)).setCell ⟨S + 1, 1, none⟩ (.int .i64 ap)).setCell ⟨S + 1, 2, none⟩ (.int .i64 ac)).setCell ⟨S + 1, 3, none⟩ (.int .i64 an)).setCell ⟨S + 1, 4, none⟩ (.slice a4 (ow.length + more.length) c4)).ownsRow W0.heap.size 37 4 (.slice a4 (ow.length + more.length) c4) (ow.length + more.length) (rtCells ow ++ rtCells more)) :=
    owns_setCell (owns_setCell (owns_setCell (owns_setCell (owns_setCell (owns_setCell HO4.out (a := ⟨S, 4, none⟩) (by simp only; omega) _) (a := ⟨S + 1, 0, none⟩) (by simp only; omega) _) (a := ⟨S + 1, 1, none⟩) (by simp only; omega) _) (a := ⟨S + 1, 2, none⟩) (by simp only; omega) _) (a := ⟨S + 1, 3, none⟩) (by simp only; omega) _) (a := ⟨S + 1, 4, none⟩) (by simp only; omega) _
  have HZ6 := Lib.hid hZ5
  have HSS := Lib.hid hS
  have HBS : Hid (S ≤ W0.heap.size) := by show _ ≤ _; omega
  rw [← hS]
  clear hA5 hZ0 hZ1 hZ2 hZ3 hZ4 hZ5 qf0 qf1 qf2 qf3 qf4 hA4 hv4 hg4 hb4 hs4 yf HA HZ HM HU HWE HB0 HO3 HB3 HO4 g4 hsz HSZ hS HB4
  go_wp2_with fail
  try simp only [Exit.inBlock, Exit.then]
  refine bodyPost_ret (results_cell_row rfl _ _ (S + 1) 29 _ _ _ rfl HZ6.out Try.underlying29 rfl (by kernel_rfl)) rfl ?_
  refine ⟨_, rfl, ?_, by rw [← HSS.out]; exact HB5.out⟩
  rw [List.length_append, rtCells_append]
  exact owns_mono HO5.out (by rw [← HSS.out]; exact HBS.out)

end Go.Proofs.Ytdhiefgbajogcaa
