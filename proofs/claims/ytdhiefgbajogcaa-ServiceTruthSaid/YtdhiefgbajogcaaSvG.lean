/-
  Begin: the program's and the reference's.
-/
import Derived.Test.YtdhiefgbajogcaaSvF
namespace Go.Proofs.Ytdhiefgbajogcaa
open Go.RowKit

/-- An attempt is appended: the list reads. -/
theorem OwnAts.push_reads {w w' : World} {B E EI C : Nat} {v v' : Value} {l : List At} {us : List Value} {x : At} {u : Value} (hE : EI ≠ E)
    (h : OwnAts w B E EI v l us l.length) (hu : w.ownsRow C EI 4 u x.own.length (rtCells x.own))
    (hv : w'.ownsRow B E 5 v' (l.length + 1) (atCells l us ++ atRow x u)) (hg : w.grownBy w' v.ownBlock) : IsAts w' v' (l ++ [x]) := by
  have hlen := h.len
  refine ⟨us ++ [u], by simp [hlen], ?_, ?_⟩
  · rw [atCells_append l us hlen, show (l ++ [x]).length = l.length + 1 from by simp]
    exact Rd.of_owns hv
  · intro i hi hi'
    by_cases e : i < l.length
    · rw [List.getElem_append_left (by omega), List.getElem_append_left e]
      have := h.own i e (by omega) e
      exact IsRts.of_owns (this.kept hg (owns_apart this h.row hE))
    · obtain rfl : i = l.length := by simp at hi; omega
      have e1 : (us ++ [u])[l.length] = u := by rw [List.getElem_append_right (by omega)]; simp [hlen]
      have e2 : (l ++ [x])[l.length] = x := by simp
      rw [e1, e2]
      exact IsRts.of_owns (hu.kept hg (owns_apart hu h.row hE))
def beginL (n : Nat) (l : List At) (a : At) : List At := if chkA n a = 0 then l ++ [a] else []

/-- The literal of one attempt. -/
theorem atLit (W : World) (x : At) (u : Value) : Rd (W.alloc (.cells #[.int .i64 x.ent, .int .i64 x.par, .int .i64 x.car, .int .i64 x.sent, u] 29)) (.slice (some ⟨W.heap.size, 0, none⟩) 1 1) 5 1 (atRow x u) := Rd.lit W #[.int .i64 x.ent, .int .i64 x.par, .int .i64 x.car, .int .i64 x.sent, u] 29 5 1 rfl (by unfold maxLen; omega)

set_option maxHeartbeats 2000000 in
set_option maxRecDepth 100000 in
theorem svcBegin (l : List At) (a : At) (cs : List (Int × Int)) (v u y : Value) (w : World) (hx : IsAts w v l) (hu : IsRts w u a.own) (hy : IsSps w y cs) (hl : l.length ≤ 1000) (ho : ∀ x ∈ l, x.own.length ≤ 1000000) (hao : a.own.length ≤ 1000000) :
    Calls Try.prog 18 #[v, .agg #[.int .i64 a.ent, .int .i64 a.par, .int .i64 a.car, .int .i64 a.sent, u], y] w fun e w' => ∃ v', e = .returned (.tuple #[v', .int .i64 (chkA cs.length a)]) ∧ IsAts w' v' (beginL cs.length l a) ∧ Below w.heap.size w w' := by
  obtain ⟨ae, ap, ac, an, ow⟩ := a
  simp only at hu hao ⊢
  obtain ⟨P, hP⟩ : ∃ P, P = w.heap.size := ⟨_, rfl⟩
  obtain ⟨W0, hW0⟩ : ∃ W0, W0 = w.alloc (.cells #[.int .i64 ae, .int .i64 ap, .int .i64 ac, .int .i64 an, u] 29) := ⟨_, rfl⟩
  have hb0 : Below w.heap.size w W0 := by rw [hW0]; exact (Below.refl _ _).alloc (Nat.le_refl _) _
  have hz0 : P < W0.heap.size := by rw [hW0, hP]; simp
  have hA : W0.heap[P]? = some (.cells #[.int .i64 ae, .int .i64 ap, .int .i64 ac, .int .i64 an, u] 29) := by rw [hW0, hP]; exact heap_alloc_new w _
  have HX := Lib.hid hx
  have HU := Lib.hid (hu.below hb0)
  have HY := Lib.hid (hy.below hb0)
  have HB0 := Lib.hid hb0
  have HHO := Lib.hid ho
  obtain ⟨v0, vc, rfl, -, -, -⟩ := hx.open
  obtain ⟨ua, uc, rfl⟩ := hu.sl
  obtain ⟨ya, yc, rfl, -, -, -⟩ := hy.open
  have HCK := Lib.hid (svcCheck ⟨ae, ap, ac, an, ow⟩ cs _ _ W0 HU.out HY.out)
  have HPS := Lib.hid hP
  have HWE := Lib.hid hW0
  obtain ⟨CK, hCK⟩ : ∃ CK, chkA cs.length ⟨ae, ap, ac, an, ow⟩ = CK := ⟨_, rfl⟩
  have HBL : Hid (CK = 0 → beginL cs.length l ⟨ae, ap, ac, an, ow⟩ = l ++ [⟨ae, ap, ac, an, ow⟩]) := fun h => by unfold beginL; rw [hCK, if_pos h]
  have HBN : Hid (CK ≠ 0 → beginL cs.length l ⟨ae, ap, ac, an, ow⟩ = []) := fun h => by unfold beginL; rw [hCK, if_neg h]
  rw [hCK] at HCK ⊢
  have hl' : ¬ (65536 : Int) ≤ (l.length : Int) := by omega
  obtain ⟨⟨y0, y1, y2, y3, y4⟩, -⟩ := five_of hA
  have HA := Lib.hid hA
  have HZ0 : Hid (P < W0.heap.size) := hz0
  clear hx hu hy ho hb0 hW0 hCK hA hz0 hP
  go_enter Try.func18, Try.ntmps18
  go_wp2_with fail
  rw [← HWE.out, ← HPS.out]
  refine HCK.out.mono ?_
  rintro e w1 ⟨rfl, hb1⟩
  have HB1 := Lib.hid hb1
  have HU1 := Lib.hid (HU.out.below hb1)
  have HA1 : Hid (w1.heap[P]? = some (.cells #[.int .i64 ae, .int .i64 ap, .int .i64 ac, .int .i64 an, .slice ua ow.length uc] 29)) := (hb1.block _ HZ0.out).trans HA.out
  have HZ1 : Hid (P < w1.heap.size) := Nat.lt_of_lt_of_le HZ0.out hb1.size
  have HBT := Lib.hid (Below.to HB0.out hb1 HB0.out.size)
  clear hb1 HCK y0 y1 y2 y3 y4
  by_cases hz : CK = 0
  · have hzb : (CK == 0) = true := by simpa using hz
    have HRL := Lib.hid (HBL.out hz)
    obtain ⟨⟨y0, y1, y2, y3, y4⟩, yf⟩ := five_of HA1.out
    have yf4 := yf 4
    subst hz
    have HN1 : Hid (l.length + 1 ≤ maxLen) := (by show _ ≤ _; unfold maxLen; omega)
    have HN2 : Hid ((l.length + 1) * 56 ≤ 140737488355328) := (by show _ ≤ _; omega)
    go_wp2_with fail
    refine (clone_rets ow _ _ HU1.out hao).mono ?_
    rintro e w2 ⟨u', rfl, hu', hb2⟩
    obtain ⟨xa, xc, rfl, -, -⟩ := owns_slice hu'
    have hA2 : w2.heap[P]? = some (.cells #[.int .i64 ae, .int .i64 ap, .int .i64 ac, .int .i64 an, .slice ua ow.length uc] 29) := (hb2.block _ HZ1.out).trans HA1.out
    obtain ⟨W3, hW3⟩ : ∃ W3, W3 = w2.setCell ⟨P, 4, none⟩ (.slice xa ow.length xc) := ⟨_, rfl⟩
    have hA3 : W3.heap[P]? = some (.cells #[.int .i64 ae, .int .i64 ap, .int .i64 ac, .int .i64 an, .slice xa ow.length xc] 29) := by rw [hW3]; exact heap_setCell_same w2 P 4 _ _ _ hA2
    have HB3 : Hid (Below w.heap.size w W3) := by
      show Below _ _ _
      rw [hW3, HPS.out]
      exact (Below.to HBT.out hb2 HBT.out.size).setCell (p := ⟨w.heap.size, 4, none⟩) (Nat.le_refl _) _
    have HO3 : Hid (W3.ownsRow w1.heap.size 37 4 (.slice xa ow.length xc) ow.length (rtCells ow)) := by
      show World.ownsRow _ _ _ _ _ _ _
      rw [hW3]
      exact owns_setCell hu' (a := ⟨P, 4, none⟩) HZ1.out _
    have hz3 : P < W3.heap.size := by rw [hW3, World.size_setCell]; exact Nat.lt_of_lt_of_le HZ1.out hb2.size
    have HX3 := Lib.hid (HX.out.below HB3.out)
    obtain ⟨⟨z0, z1, z2, z3, z4⟩, -⟩ := five_of hA3
    have hA2f := (five_of hA2).2 4
    obtain ⟨⟨-, -, -, -, hA24⟩, -⟩ := five_of hA2
    have HZ3 : Hid (P < W3.heap.size) := hz3
    have HKS : Hid (∀ X, Below W3.heap.size W3 X → X.cell? ⟨P, 0, none⟩ = some (.int .i64 ae) ∧ X.cell? ⟨P, 1, none⟩ = some (.int .i64 ap) ∧ X.cell? ⟨P, 2, none⟩ = some (.int .i64 ac) ∧ X.cell? ⟨P, 3, none⟩ = some (.int .i64 an) ∧ X.cell? ⟨P, 4, none⟩ = some (.slice xa ow.length xc)) := fun X hX => ⟨(hX.cell (p := ⟨P, 0, none⟩) HZ3.out).trans z0, (hX.cell (p := ⟨P, 1, none⟩) HZ3.out).trans z1, (hX.cell (p := ⟨P, 2, none⟩) HZ3.out).trans z2, (hX.cell (p := ⟨P, 3, none⟩) HZ3.out).trans z3, (hX.cell (p := ⟨P, 4, none⟩) HZ3.out).trans z4⟩
    have KD : Hid (W3.drew.cell? ⟨P, 0, none⟩ = some (.int .i64 ae) ∧ W3.drew.cell? ⟨P, 1, none⟩ = some (.int .i64 ap) ∧ W3.drew.cell? ⟨P, 2, none⟩ = some (.int .i64 ac) ∧ W3.drew.cell? ⟨P, 3, none⟩ = some (.int .i64 an) ∧ W3.drew.cell? ⟨P, 4, none⟩ = some (.slice xa ow.length xc)) := HKS.out _ ((Below.refl _ _).drew)
    have HCL : Hid (∀ X, Below W3.heap.size W3 X → Calls Try.prog 37 #[.slice v0 l.length vc] X fun e w' => ∃ v' us, e = .returned v' ∧ OwnAts w' X.heap.size 29 37 v' l us l.length ∧ Below X.heap.size X w') := fun X hX => svcClone l _ X (HX3.out.below hX) (by omega) HHO.out
    have HW3 := Lib.hid hW3
    clear hb2 hu' hA2 hW3 hA3 hz3 y0 y1 y2 y3 yf yf4 z0 z1 z2 z3 z4
    go_wp2_with fail
    rw [← HW3.out]
    go_region_held3 (fun w' => w'.cell? ⟨P, 0, none⟩ = some (.int .i64 ae) ∧ w'.cell? ⟨P, 1, none⟩ = some (.int .i64 ap) ∧ w'.cell? ⟨P, 2, none⟩ = some (.int .i64 ac) ∧ w'.cell? ⟨P, 3, none⟩ = some (.int .i64 an) ∧ w'.cell? ⟨P, 4, none⟩ = some (.slice xa ow.length xc))
      (first
        | exact KD.out
        | exact HKS.out _ HB5.out
        | exact HKS.out _ HB4.out
        | exact HKS.out _ (((Below.refl _ _).alloc (Nat.le_refl _) _).drew)
        | exact HKS.out _ (Below.to HB4.out ((Below.refl _ _).alloc (Nat.le_refl _) _) HB4.out.size)
        | go_keep)
      (first
        | (go_at_call 37
           refine (HCL.out _ ((Below.refl _ _).drew)).mono ?_
           rintro e w4 ⟨v4, us, rfl, ho4, hb4⟩
           have HO4 : Hid (OwnAts w4 W3.heap.size 29 37 v4 l us l.length) := ho4
           have HB4 : Hid (Below W3.heap.size W3 w4) := Below.to ((Below.refl _ _).drew) hb4 (Nat.le_refl _)
           clear ho4 hb4)
        | (go_at_call 37
           refine (HCL.out _ (((Below.refl _ _).alloc (Nat.le_refl _) _).drew)).mono ?_
           rintro e w4 ⟨v4, us, rfl, ho4, hb4⟩
           have HO4 : Hid (OwnAts w4 W3.heap.size 29 37 v4 l us l.length) := ho4.mono (by simp)
           have HLL : Hid (Rd w4 (.slice (some ⟨W3.heap.size, 0, none⟩) 1 1) 5 1 (atRow ⟨ae, ap, ac, an, ow⟩ (.slice xa ow.length xc))) := ((atLit W3 ⟨ae, ap, ac, an, ow⟩ (.slice xa ow.length xc)).below ((Below.refl _ _).drew)).below hb4
           have HB4 : Hid (Below W3.heap.size W3 w4) := Below.to (((Below.refl _ _).alloc (Nat.le_refl _) _).drew) hb4 (by simp)
           clear ho4 hb4)
        | (refine step_append_rd (by rfl) _ _ 22 (by rfl) W3.heap.size 29 _ 5 56 Try.underlying22 infoAt rfl (by decide) v4 l.length (atCells l us) (by rfl) (owns_below HO4.out.row ((Below.refl _ _).alloc (Nat.le_refl _) _)) _ 1 (atRow ⟨ae, ap, ac, an, ow⟩ (.slice xa ow.length xc)) (by rfl) (atLit w4 ⟨ae, ap, ac, an, ow⟩ (.slice xa ow.length xc)) (atRow_one _ rfl) HN1.out HN2.out (by have := HB4.out.size; simp; omega) ?_
           intro v5 w5 hv5 hg5
           have HF5 : Hid (IsAts w5 v5 (l ++ [⟨ae, ap, ac, an, ow⟩])) := OwnAts.push_reads (by decide) (HO4.out.below ((Below.refl _ _).alloc (Nat.le_refl _) _)) ((owns_below HO3.out HB4.out).alloc _) hv5 hg5
           have hb5 := below_append (Below.to HB4.out ((Below.refl _ _).alloc (Nat.le_refl _) (.cells #[.int .i64 ae, .int .i64 ap, .int .i64 ac, .int .i64 an, .slice xa ow.length xc] 29)) HB4.out.size) (owns_below HO4.out.row ((Below.refl _ _).alloc (Nat.le_refl _) _)) hg5 (by have := HB4.out.size; simp; omega)
           have HB5 := Lib.hid hb5
           have HV5 := Lib.hid hv5
           clear hv5 hg5 hb5)
        | (refine step_append_rd (by rfl) _ _ 22 (by rfl) W3.heap.size 29 _ 5 56 Try.underlying22 infoAt rfl (by decide) v4 l.length (atCells l us) (by rfl) HO4.out.row _ 1 (atRow ⟨ae, ap, ac, an, ow⟩ (.slice xa ow.length xc)) (by rfl) HLL.out (atRow_one _ rfl) HN1.out HN2.out HB4.out.size ?_
           intro v5 w5 hv5 hg5
           have HF5 : Hid (IsAts w5 v5 (l ++ [⟨ae, ap, ac, an, ow⟩])) := OwnAts.push_reads (by decide) HO4.out (owns_below HO3.out HB4.out) hv5 hg5
           have hb5 := below_append HB4.out HO4.out.row hg5 HB4.out.size
           have HB5 := Lib.hid hb5
           have HV5 := Lib.hid hv5
           clear hv5 hg5 hb5))
    all_goals
      have HB6 := Lib.hid (Below.to HB3.out HB5.out HB3.out.size)
      obtain ⟨va, vcc, rfl, -, -⟩ := owns_slice HV5.out
      clear KD HKS HCL HO4 HV5 HB4 HO3
      go_wp2_with fail
      go_ret2
      exact ⟨_, rfl, by rw [HRL.out]; exact HF5.out, HB6.out⟩
  · have hzb : (CK == 0) = false := by simpa using hz
    have HRL := Lib.hid (HBN.out hz)
    clear hz hl'
    go_wp2_with fail
    go_ret2
    exact ⟨_, rfl, by rw [HRL.out]; exact IsAts.nil _ _ _, HBT.out⟩

set_option maxHeartbeats 2000000 in
set_option maxRecDepth 100000 in
theorem refBegin (l : List At) (a : At) (cs : List (Int × Int)) (v u y : Value) (w : World) (hx : IsAts w v l) (hu : IsRts w u a.own) (hy : IsSps w y cs) (hl : l.length ≤ 1000) (ho : ∀ x ∈ l, x.own.length ≤ 1000000) (hao : a.own.length ≤ 1000000) :
    Calls Try.prog 19 #[v, .agg #[.int .i64 a.ent, .int .i64 a.par, .int .i64 a.car, .int .i64 a.sent, u], y] w fun e w' => ∃ v', e = .returned (.tuple #[v', .int .i64 (chkA cs.length a)]) ∧ IsAts w' v' (beginL cs.length l a) ∧ Below w.heap.size w w' := by
  obtain ⟨ae, ap, ac, an, ow⟩ := a
  simp only at hu hao ⊢
  obtain ⟨P, hP⟩ : ∃ P, P = w.heap.size := ⟨_, rfl⟩
  obtain ⟨W0, hW0⟩ : ∃ W0, W0 = w.alloc (.cells #[.int .i64 ae, .int .i64 ap, .int .i64 ac, .int .i64 an, u] 29) := ⟨_, rfl⟩
  have hb0 : Below w.heap.size w W0 := by rw [hW0]; exact (Below.refl _ _).alloc (Nat.le_refl _) _
  have hz0 : P < W0.heap.size := by rw [hW0, hP]; simp
  have hA : W0.heap[P]? = some (.cells #[.int .i64 ae, .int .i64 ap, .int .i64 ac, .int .i64 an, u] 29) := by rw [hW0, hP]; exact heap_alloc_new w _
  have HX := Lib.hid hx
  have HU := Lib.hid (hu.below hb0)
  have HY := Lib.hid (hy.below hb0)
  have HB0 := Lib.hid hb0
  have HHO := Lib.hid ho
  obtain ⟨v0, vc, rfl, -, -, -⟩ := hx.open
  obtain ⟨ua, uc, rfl⟩ := hu.sl
  obtain ⟨ya, yc, rfl, -, -, -⟩ := hy.open
  have HCK := Lib.hid (refWrongA ⟨ae, ap, ac, an, ow⟩ cs _ _ W0 HU.out HY.out)
  have HPS := Lib.hid hP
  have HWE := Lib.hid hW0
  obtain ⟨CK, hCK⟩ : ∃ CK, chkA cs.length ⟨ae, ap, ac, an, ow⟩ = CK := ⟨_, rfl⟩
  have HBL : Hid (CK = 0 → beginL cs.length l ⟨ae, ap, ac, an, ow⟩ = l ++ [⟨ae, ap, ac, an, ow⟩]) := fun h => by unfold beginL; rw [hCK, if_pos h]
  have HBN : Hid (CK ≠ 0 → beginL cs.length l ⟨ae, ap, ac, an, ow⟩ = []) := fun h => by unfold beginL; rw [hCK, if_neg h]
  rw [hCK] at HCK ⊢
  have hl' : ¬ (65536 : Int) ≤ (l.length : Int) := by omega
  obtain ⟨⟨y0, y1, y2, y3, y4⟩, -⟩ := five_of hA
  have HA := Lib.hid hA
  have HZ0 : Hid (P < W0.heap.size) := hz0
  clear hx hu hy ho hb0 hW0 hCK hA hz0 hP
  go_enter Try.func19, Try.ntmps19
  go_wp2_with fail
  rw [← HWE.out, ← HPS.out]
  refine HCK.out.mono ?_
  rintro e w1 ⟨rfl, hb1⟩
  have HB1 := Lib.hid hb1
  have HU1 := Lib.hid (HU.out.below hb1)
  have HA1 : Hid (w1.heap[P]? = some (.cells #[.int .i64 ae, .int .i64 ap, .int .i64 ac, .int .i64 an, .slice ua ow.length uc] 29)) := (hb1.block _ HZ0.out).trans HA.out
  have HZ1 : Hid (P < w1.heap.size) := Nat.lt_of_lt_of_le HZ0.out hb1.size
  have HBT := Lib.hid (Below.to HB0.out hb1 HB0.out.size)
  clear hb1 HCK y0 y1 y2 y3 y4
  by_cases hz : CK = 0
  · have hzb : (CK == 0) = true := by simpa using hz
    have HRL := Lib.hid (HBL.out hz)
    obtain ⟨⟨y0, y1, y2, y3, y4⟩, yf⟩ := five_of HA1.out
    have yf4 := yf 4
    subst hz
    have HN1 : Hid (l.length + 1 ≤ maxLen) := (by show _ ≤ _; unfold maxLen; omega)
    have HN2 : Hid ((l.length + 1) * 56 ≤ 140737488355328) := (by show _ ≤ _; omega)
    have HX1 := Lib.hid (HX.out.below HBT.out)
    have HKS : Hid (∀ X, Below w1.heap.size w1 X → X.cell? ⟨P, 0, none⟩ = some (.int .i64 ae) ∧ X.cell? ⟨P, 1, none⟩ = some (.int .i64 ap) ∧ X.cell? ⟨P, 2, none⟩ = some (.int .i64 ac) ∧ X.cell? ⟨P, 3, none⟩ = some (.int .i64 an) ∧ X.cell? ⟨P, 4, none⟩ = some (.slice ua ow.length uc)) := fun X hX => ⟨(hX.cell (p := ⟨P, 0, none⟩) HZ1.out).trans y0, (hX.cell (p := ⟨P, 1, none⟩) HZ1.out).trans y1, (hX.cell (p := ⟨P, 2, none⟩) HZ1.out).trans y2, (hX.cell (p := ⟨P, 3, none⟩) HZ1.out).trans y3, (hX.cell (p := ⟨P, 4, none⟩) HZ1.out).trans y4⟩
    have KD : Hid (w1.drew.cell? ⟨P, 0, none⟩ = some (.int .i64 ae) ∧ w1.drew.cell? ⟨P, 1, none⟩ = some (.int .i64 ap) ∧ w1.drew.cell? ⟨P, 2, none⟩ = some (.int .i64 ac) ∧ w1.drew.cell? ⟨P, 3, none⟩ = some (.int .i64 an) ∧ w1.drew.cell? ⟨P, 4, none⟩ = some (.slice ua ow.length uc)) := HKS.out _ ((Below.refl _ _).drew)
    have HCL : Hid (∀ X, Below w1.heap.size w1 X → Calls Try.prog 38 #[.slice v0 l.length vc] X fun e w' => ∃ v' us, e = .returned v' ∧ OwnAts w' X.heap.size 29 37 v' l us l.length ∧ Below X.heap.size X w') := fun X hX => refCopies l _ X (HX1.out.below hX) (by omega) HHO.out
    have HCP : Hid (∀ X, Below w1.heap.size w1 X → Calls Try.prog 39 #[.agg #[.int .i64 ae, .int .i64 ap, .int .i64 ac, .int .i64 an, .slice ua ow.length uc], .slice none 0 0] X fun e w' => ∃ u', e = .returned (.agg #[.int .i64 ae, .int .i64 ap, .int .i64 ac, .int .i64 an, u']) ∧ w'.ownsRow X.heap.size 37 4 u' ow.length (rtCells ow) ∧ Below X.heap.size X w') := fun X hX => by
      have h := refCopy ⟨ae, ap, ac, an, ow⟩ [] (.slice ua ow.length uc) (.slice none 0 0) X (HU1.out.below hX) (IsRts.nil _ _ _) hao (Nat.zero_le _)
      simp only [List.append_nil] at h
      exact h
    clear y0 y1 y2 y3 y4 yf yf4
    go_wp2_with fail
    go_region_held3 (fun w' => w'.cell? ⟨P, 0, none⟩ = some (.int .i64 ae) ∧ w'.cell? ⟨P, 1, none⟩ = some (.int .i64 ap) ∧ w'.cell? ⟨P, 2, none⟩ = some (.int .i64 ac) ∧ w'.cell? ⟨P, 3, none⟩ = some (.int .i64 an) ∧ w'.cell? ⟨P, 4, none⟩ = some (.slice ua ow.length uc))
      (first
        | exact KD.out
        | exact HKS.out _ HB7.out
        | exact HKS.out _ HB6.out
        | exact HKS.out _ (Below.to HB6.out ((Below.refl _ _).alloc (Nat.le_refl _) _) HB6.out.size)
        | exact HKS.out _ HB5.out
        | exact HKS.out _ (Below.to HB5.out ((Below.refl _ _).alloc (Nat.le_refl _) _) HB5.out.size)
        | exact HKS.out _ HB4.out
        | go_keep)
      (first
        | (go_at_call 38
           refine (HCL.out _ ((Below.refl _ _).drew)).mono ?_
           rintro e w4 ⟨v4, us, rfl, ho4, hb4⟩
           have HO4 : Hid (OwnAts w4 w1.heap.size 29 37 v4 l us l.length) := ho4
           have HB4 : Hid (Below w1.heap.size w1 w4) := Below.to ((Below.refl _ _).drew) hb4 (Nat.le_refl _)
           have Q1 := True.intro
           clear ho4 hb4)
        | (go_at_call 39
           refine (HCP.out _ HB4.out).mono ?_
           rintro e w5 ⟨u5, rfl, hu5, hb5⟩
           obtain ⟨xa, xc, rfl, -, -⟩ := owns_slice hu5
           have HU5 := Lib.hid hu5
           have HO5 := Lib.hid (HO4.out.below hb5)
           have HB5 : Hid (Below w1.heap.size w1 w5) := Below.to HB4.out hb5 HB4.out.size
           clear hu5 hb5)
        | (go_at_call 39
           refine (HCP.out _ ((Below.refl _ _).drew)).mono ?_
           rintro e w4 ⟨u5, rfl, hu5, hb5⟩
           obtain ⟨xa, xc, rfl, -, -⟩ := owns_slice hu5
           have HU4 : Hid (w4.ownsRow w1.heap.size 37 4 (.slice xa ow.length xc) ow.length (rtCells ow)) := hu5
           have HB4 : Hid (Below w1.heap.size w1 w4) := Below.to ((Below.refl _ _).drew) hb5 (Nat.le_refl _)
           clear hu5 hb5)
        | (go_at_call 38
           refine (HCL.out _ HB4.out).mono ?_
           rintro e w5 ⟨v4, us, rfl, ho4, hb4⟩
           have HO5 : Hid (OwnAts w5 w4.heap.size 29 37 v4 l us l.length) := ho4
           have HU5 : Hid (w5.ownsRow w1.heap.size 37 4 (.slice xa ow.length xc) ow.length (rtCells ow)) := owns_below HU4.out hb4
           have HB5 : Hid (Below w1.heap.size w1 w5) := Below.to HB4.out hb4 HB4.out.size
           have HMO : Hid (w1.heap.size ≤ w4.heap.size) := HB4.out.size
           clear ho4 hb4)
        | (go_at_call 38
           refine (HCL.out _ (Below.to HB4.out ((Below.refl _ _).alloc (Nat.le_refl _) _) HB4.out.size)).mono ?_
           rintro e w6 ⟨v4, us, rfl, ho4, hb4⟩
           have HO6 : Hid (OwnAts w6 w1.heap.size 29 37 v4 l us l.length) := ho4.mono (by have := HB4.out.size; simp; omega)
           have HU6 : Hid (w6.ownsRow w1.heap.size 37 4 (.slice xa ow.length xc) ow.length (rtCells ow)) := owns_below (HU4.out.alloc _) hb4
           have HLL : Hid (Rd w6 (.slice (some ⟨w4.heap.size, 0, none⟩) 1 1) 5 1 (atRow ⟨ae, ap, ac, an, ow⟩ (.slice xa ow.length xc))) := (atLit w4 ⟨ae, ap, ac, an, ow⟩ (.slice xa ow.length xc)).below hb4
           have HB6 : Hid (Below w1.heap.size w1 w6) := Below.to (Below.to HB4.out ((Below.refl _ _).alloc (Nat.le_refl _) (.cells #[.int .i64 ae, .int .i64 ap, .int .i64 ac, .int .i64 an, .slice xa ow.length xc] 29)) HB4.out.size) hb4 (by have := HB4.out.size; simp; omega)
           clear ho4 hb4)
        | (refine step_append_rd (by rfl) _ _ 22 (by rfl) w1.heap.size 29 _ 5 56 Try.underlying22 infoAt rfl (by decide) v4 l.length (atCells l us) (by rfl) HO6.out.row _ 1 (atRow ⟨ae, ap, ac, an, ow⟩ (.slice xa ow.length xc)) (by rfl) HLL.out (atRow_one _ rfl) HN1.out HN2.out HB6.out.size ?_
           intro v7 w7 hv7 hg7
           have HF7 : Hid (IsAts w7 v7 (l ++ [⟨ae, ap, ac, an, ow⟩])) := OwnAts.push_reads (by decide) HO6.out HU6.out hv7 hg7
           have HB7 : Hid (Below w1.heap.size w1 w7) := below_append HB6.out HO6.out.row hg7 HB6.out.size
           have HV7 : Hid (∃ a c, v7 = .slice a (l.length + 1) c) := (by obtain ⟨a, c, h, -, -⟩ := owns_slice hv7; exact ⟨a, c, h⟩)
           clear hv7 hg7)
        | (refine step_append_rd (by rfl) _ _ 22 (by rfl) w1.heap.size 29 _ 5 56 Try.underlying22 infoAt rfl (by decide) v4 l.length (atCells l us) (by rfl) (owns_below (owns_mono HO5.out.row (by first | exact HMO.out | exact Nat.le_refl _)) ((Below.refl _ _).alloc (Nat.le_refl _) _)) _ 1 (atRow ⟨ae, ap, ac, an, ow⟩ (.slice xa ow.length xc)) (by rfl) (atLit w5 ⟨ae, ap, ac, an, ow⟩ (.slice xa ow.length xc)) (atRow_one _ rfl) HN1.out HN2.out (by have := HB5.out.size; simp; omega) ?_
           intro v7 w7 hv7 hg7
           have HO6 := Lib.hid ((HO5.out.mono (by first | exact HMO.out | exact Nat.le_refl _)).below ((Below.refl w5.heap.size w5).alloc (Nat.le_refl _) (.cells #[.int .i64 ae, .int .i64 ap, .int .i64 ac, .int .i64 an, .slice xa ow.length xc] 29)))
           have HF7 : Hid (IsAts w7 v7 (l ++ [⟨ae, ap, ac, an, ow⟩])) := OwnAts.push_reads (by decide) HO6.out (HU5.out.alloc _) hv7 hg7
           have HB7 : Hid (Below w1.heap.size w1 w7) := below_append (Below.to HB5.out ((Below.refl _ _).alloc (Nat.le_refl _) (.cells #[.int .i64 ae, .int .i64 ap, .int .i64 ac, .int .i64 an, .slice xa ow.length xc] 29)) HB5.out.size) HO6.out.row hg7 (by have := HB5.out.size; simp; omega)
           have HV7 : Hid (∃ a c, v7 = .slice a (l.length + 1) c) := (by obtain ⟨a, c, h, -, -⟩ := owns_slice hv7; exact ⟨a, c, h⟩)
           clear hv7 hg7))
    all_goals
      have HB8 := Lib.hid (Below.to HBT.out HB7.out HBT.out.size)
      obtain ⟨va, vcc, rfl⟩ := HV7.out
      clear KD HKS HCL HCP
      go_wp2_with fail
      go_ret2
      exact ⟨_, rfl, by rw [HRL.out]; exact HF7.out, HB8.out⟩
  · have hzb : (CK == 0) = false := by simpa using hz
    have HRL := Lib.hid (HBN.out hz)
    clear hz hl'
    go_wp2_with fail
    go_ret2
    exact ⟨_, rfl, by rw [HRL.out]; exact IsAts.nil _ _ _, HBT.out⟩

end Go.Proofs.Ytdhiefgbajogcaa
