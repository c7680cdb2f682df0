/-
  digest.New and digest.Write. (Printed by wip/tools/gen_dgd.py.)
-/
import Derived.Test.YtgfnelpfoegdaaaDoorDgC
namespace Go.Proofs.YtgfnelpfoegdaaaDoor
open Go.RowKit

/-- All whole blocks of some bytes are worked in; what is left. -/
def dgRun (KS H b : List Int) : List Int × List Int := if _h : 64 ≤ b.length then dgRun KS (blkF KS H b) (b.drop 64) else (H, b)
termination_by b.length
decreasing_by rw [List.length_drop]; omega
theorem dgRun_step {KS H b : List Int} (h : 64 ≤ b.length) : dgRun KS H b = dgRun KS (blkF KS H b) (b.drop 64) := by conv => lhs; unfold dgRun; rw [dif_pos h]
theorem dgRun_end {KS H b : List Int} (h : ¬ 64 ≤ b.length) : dgRun KS H b = (H, b) := by unfold dgRun; rw [dif_neg h]
theorem dgRun_len (KS : List Int) : ∀ (k : Nat) (H b : List Int), b.length ≤ k → H.length = 8 → (dgRun KS H b).1.length = 8 ∧ (dgRun KS H b).2.length ≤ 63
  | k, H, b, hk, hh => by
    by_cases h : 64 ≤ b.length
    · rw [dgRun_step h]
      cases k with
      | zero => omega
      | succ k => exact dgRun_len KS k _ _ (by rw [List.length_drop]; omega) (blkF_len KS H b hh)
    · rw [dgRun_end h]
      exact ⟨hh, by show b.length ≤ 63; omega⟩

/-- A digest's cells. -/
def dgC (H : List Int) (u : Value) (n : Int) : List Value := H.map (Value.int .u32) ++ [u, .int .i64 n]
theorem dgC_len {H : List Int} (h : H.length = 8) (u : Value) (n : Int) : (dgC H u n).length = 10 := by simp [dgC, h]
theorem set_same {W : World} {P j : Nat} {u v : Value} (h : W.cell? ⟨P, j, none⟩ = some u) : (W.setCell ⟨P, j, none⟩ v).cell? ⟨P, 0 + j, none⟩ = some v := by
  rw [Nat.zero_add]
  exact World.cell?_setCell_same W _ v h
theorem set_other {W : World} {P i j : Nat} {v : Value} (h : ¬ j = i) : (W.setCell ⟨P, i, none⟩ v).cell? ⟨P, 0 + j, none⟩ = W.cell? ⟨P, 0 + j, none⟩ := by
  rw [Nat.zero_add]
  exact World.cell?_setCell_other W _ _ v (by intro e; injection e; omega)
/-- A digest lies behind P. -/
structure DgAt (W : World) (P : Nat) (H : List Int) (u : Value) (n : Int) : Prop where
  rg : W.rangeAt P 0 (dgC H u n)
  th : W.there P 0 10
theorem DgAt.below {W W' : World} {P B : Nat} {H : List Int} {u : Value} {n : Int} (h : DgAt W P H u n) (hb : Below B W W') (hP : P < B) : DgAt W' P H u n :=
  ⟨range_below h.rg hb hP, fun j hj => ⟨by rw [hb.cell (p := ⟨P, 0 + j, none⟩) hP]; exact (h.th j hj).1, by rw [hb.frozen (p := ⟨P, 0 + j, none⟩) hP]; exact (h.th j hj).2⟩⟩
theorem DgAt.rh {W : World} {P : Nat} {H : List Int} {u : Value} {n : Int} (h : DgAt W P H u n) : W.rangeAt P 0 (H.map (Value.int .u32)) := fun j v hv =>
  h.rg j v (by unfold dgC; rw [List.getElem?_append_left (by simpa using (List.getElem?_eq_some_iff.1 hv).1)]; exact hv)
theorem DgAt.c8 {W : World} {P : Nat} {H : List Int} {u : Value} {n : Int} (h : DgAt W P H u n) (hl : H.length = 8) : W.cell? ⟨P, 8, none⟩ = some u := by
  have h1 := h.rg 8 u (by unfold dgC; rw [List.getElem?_append_right (by simp [hl])]; simp [hl])
  simpa using h1
theorem DgAt.c9 {W : World} {P : Nat} {H : List Int} {u : Value} {n : Int} (h : DgAt W P H u n) (hl : H.length = 8) : W.cell? ⟨P, 9, none⟩ = some (.int .i64 n) := by
  have h1 := h.rg 9 (.int .i64 n) (by unfold dgC; rw [List.getElem?_append_right (by simp [hl])]; simp [hl])
  simpa using h1
theorem DgAt.fr {W : World} {P : Nat} {H : List Int} {u : Value} {n : Int} (h : DgAt W P H u n) {j : Nat} (hj : j < 10) : W.frozen? ⟨P, j, none⟩ = false := by
  have h1 := (h.th j hj).2
  simpa using h1
theorem DgAt.setN {W : World} {P : Nat} {H : List Int} {u : Value} {n m : Int} (h : DgAt W P H u n) (hl : H.length = 8) : DgAt (W.setCell ⟨P, 9, none⟩ (.int .i64 m)) P H u m := by
  refine ⟨fun j v hv => ?_, fun j hj => ⟨?_, by rw [World.frozen?_setCell]; exact (h.th j hj).2⟩⟩
  · have hjl := (List.getElem?_eq_some_iff.1 hv).1
    rw [dgC_len hl] at hjl
    by_cases e : j = 9
    · subst e
      have hv2 : v = .int .i64 m := by
        unfold dgC at hv
        rw [List.getElem?_append_right (by simp [hl])] at hv
        simpa [hl] using hv.symm
      subst hv2
      exact set_same (by simpa using h.c9 hl)
    · rw [set_other (by omega)]
      refine h.rg j v ?_
      have h10 : (dgC H u n).length = 10 := dgC_len hl u n
      unfold dgC at hv ⊢
      by_cases h8 : j < 8
      · rw [List.getElem?_append_left (by simp [hl]; exact h8)] at hv ⊢
        exact hv
      · have e8 : j = 8 := by omega
        subst e8
        rw [List.getElem?_append_right (by simp [hl])] at hv ⊢
        simpa [hl] using hv
  · by_cases e : j = 9
    · subst e
      rw [set_same (u := .int .i64 n) (by simpa using h.c9 hl)]
      rfl
    · rw [set_other (by omega)]
      exact (h.th j hj).1
theorem DgAt.setT {W : World} {P : Nat} {H : List Int} {u u' : Value} {n : Int} (h : DgAt W P H u n) (hl : H.length = 8) : DgAt (W.setCell ⟨P, 8, none⟩ u') P H u' n := by
  refine ⟨fun j v hv => ?_, fun j hj => ⟨?_, by rw [World.frozen?_setCell]; exact (h.th j hj).2⟩⟩
  · have hjl := (List.getElem?_eq_some_iff.1 hv).1
    rw [dgC_len hl] at hjl
    by_cases e : j = 8
    · subst e
      have hv2 : v = u' := by
        unfold dgC at hv
        rw [List.getElem?_append_right (by simp [hl])] at hv
        simpa [hl] using hv.symm
      subst hv2
      exact set_same (by simpa using h.c8 hl)
    · rw [set_other (by omega)]
      refine h.rg j v ?_
      unfold dgC at hv ⊢
      by_cases h8 : j < 8
      · rw [List.getElem?_append_left (by simp [hl]; exact h8)] at hv ⊢
        exact hv
      · have e9 : j = 9 := by omega
        subst e9
        rw [List.getElem?_append_right (by simp [hl])] at hv ⊢
        simpa [hl] using hv
  · by_cases e : j = 8
    · subst e
      rw [set_same (u := u) (by simpa using h.c8 hl)]
      rfl
    · rw [set_other (by omega)]
      exact (h.th j hj).1
theorem DgAt.setH {W : World} {P : Nat} {H H' : List Int} {u : Value} {n : Int} (h : DgAt W P H u n) (hl : H.length = 8) (hl' : H'.length = 8) : DgAt (W.setCells P 0 (H'.map (Value.int .u32))) P H' u n := by
  refine ⟨fun j v hv => ?_, World.there_setCells h.th _ _ _⟩
  have hjl := (List.getElem?_eq_some_iff.1 hv).1
  rw [dgC_len hl'] at hjl
  by_cases h8 : j < 8
  · have h9 : (H'.map (Value.int .u32))[j]? = some v := by
      unfold dgC at hv
      rw [List.getElem?_append_left (by simp [hl']; exact h8)] at hv
      exact hv
    have h1 := World.rangeAt_setCells_same W P 0 (H'.map (Value.int .u32)) (fun k hk => h.th k (by simp [hl'] at hk; omega))
    exact h1 j v h9
  · rw [World.cell?_setCells_out P _ _ _ _ (fun _ _ => .inr (by simp [hl']; omega))]
    refine h.rg j v ?_
    unfold dgC at hv ⊢
    rw [List.getElem?_append_right (by simp [hl']; omega)] at hv
    rw [List.getElem?_append_right (by simp [hl]; omega)]
    simpa [hl, hl'] using hv
theorem grownBy_setCellA (W : World) (b i : Nat) (v : Value) : W.grownBy (W.setCell ⟨b, i, none⟩ v) (some b) :=
  ⟨rfl, rfl, rfl, (KeepsWalks.setCell W _ v).size, fun k _ hk => Below.heap_setCell _ _ _ k (fun e => hk (by rw [e]))⟩
theorem grownBy_setCells (b : Nat) : ∀ (vs : List Value) (o : Nat) (w : World), w.grownBy (w.setCells b o vs) (some b)
  | [], _, w => World.grownBy.refl w _
  | v :: r, o, w => (grownBy_setCellA w b o v).trans (grownBy_setCells b r (o + 1) _)
theorem info10 : (Tryd.prog.info? 88).map (·.size) = some 10 := by kernel_rfl

def dgH0 : List Int := [1779033703, 3144134277, 1013904242, 2773480762, 1359893119, 2600822924, 528734635, 1541459225]

set_option maxRecDepth 100000 in
theorem dgNew (w : World) : Calls Tryd.prog 53 #[] w fun e w' => e = .returned (.agg (dgC dgH0 (.slice none 0 0) 0).toArray) ∧ Below w.heap.size w w' := by
  obtain ⟨R, hR⟩ : ∃ R, dgC dgH0 (.slice none 0 0) 0 = R := ⟨_, rfl⟩
  have HR : Hid (R = [.int .u32 1779033703, .int .u32 3144134277, .int .u32 1013904242, .int .u32 2773480762, .int .u32 1359893119, .int .u32 2600822924, .int .u32 528734635, .int .u32 1541459225, .slice none 0 0, .int .i64 0]) := by rw [← hR]; rfl
  rw [hR]
  clear hR
  have HB : Hid (Below w.heap.size w (w.alloc (.cells R.toArray 88))) := (Below.refl _ _).alloc (Nat.le_refl _) _
  have HZ : Hid ((w.alloc (.cells R.toArray 88)).heap[w.heap.size]? = some (.cells R.toArray 88 (0, 0))) := World.alloc_heap_new w _
  rw [HR.out] at HB HZ
  go_enter Tryd.func53, Tryd.ntmps53
  go_wp2_with fail
  refine bodyPost_ret (results_cell_row rfl _ _ w.heap.size 88 _ (0, 0) _ rfl HZ.out Tryd.underlying88 rfl (by rw [info10]; rfl)) rfl ?_
  exact ⟨by rw [HR.out], HB.out⟩

def lenOfV : Value → Nat
  | .slice _ n _ => n
  | _ => 0

set_option maxHeartbeats 4000000 in
set_option maxRecDepth 100000 in
theorem dgWrite (KS H T b : List Int) (u v : Value) (n : Int) (w : World) (hh : H.length = 8) (hk : KS.length = 64) (hu : IsBts w u T) (hv : IsBts w v b) (hg : w.rangeAt 0 0 (KS.map (Value.int .u32))) (hT : T.length ≤ 1000) (hb : b.length ≤ 100000) (hn : 0 ≤ n ∧ n ≤ 1000000) :
    Calls Tryd.prog 52 #[.agg (dgC H u n).toArray, v] w fun e w' => (∃ u', e = .returned (.agg (dgC (dgRun KS H (T ++ b)).1 u' (n + (b.length : Int))).toArray) ∧ IsBts w' u' (dgRun KS H (T ++ b)).2) ∧ Below w.heap.size w w' := by
  obtain ⟨RH, hRH⟩ : ∃ R, (dgRun KS H (T ++ b)).1 = R := ⟨_, rfl⟩
  obtain ⟨RT, hRT⟩ : ∃ R, (dgRun KS H (T ++ b)).2 = R := ⟨_, rfl⟩
  rw [hRH, hRT]
  have hrl := dgRun_len KS _ H (T ++ b) (Nat.le_refl _) hh
  rw [hRH, hRT] at hrl
  have HRR : Hid (dgRun KS H (T ++ b) = (RH, RT)) := by show _ = _; rw [← hRH, ← hRT]
  obtain ⟨au, cu, rfl, -, -, -⟩ := hu.open
  obtain ⟨av, cv, rfl, -, -, -⟩ := hv.open
  have HU := Lib.hid hu
  have HV := Lib.hid hv
  have HG := Lib.hid hg
  obtain ⟨L, hL⟩ : ∃ L, b.length = L := ⟨_, rfl⟩
  obtain ⟨LT, hLT⟩ : ∃ L, T.length = L := ⟨_, rfl⟩
  rw [hL, hLT]
  rw [hL] at hb
  rw [hLT] at hT
  obtain ⟨P, hP⟩ : ∃ P, P = w.heap.size := ⟨_, rfl⟩
  have hP0 : 0 < P := by rw [hP]; have h9 := hg 0 (.int .u32 KS[0]) (by simp [hk]); exact World.block_lt_of_cell? w _ h9
  have hCl : (dgC H (.slice au LT cu) n).length = 10 := dgC_len hh _ _
  have hwn : IntKind.i64.wrap (n + (L : Int)) = n + (L : Int) := by rw [IntKind.wrap_i64]; omega
  have hCs : (dgC H (.slice au LT cu) n).set 9 (.int .i64 (n + (L : Int))) = dgC H (.slice au LT cu) (n + (L : Int)) := by
    unfold dgC
    rw [List.set_append_right _ _ (by simp [hh])]
    simp [hh]
  obtain ⟨W1, hW1⟩ : ∃ W1, W1 = (w.alloc (.cells ((dgC H (.slice au LT cu) n).set 9 (.int .i64 (n + (L : Int)))).toArray 88)).alloc (.cells #[.int .u32 0, .int .u32 0, .int .u32 0, .int .u32 0, .int .u32 0, .int .u32 0, .int .u32 0, .int .u32 0, .slice none 0 0, .int .i64 0] 88) := ⟨_, rfl⟩
  have hz1 : (w.alloc (.cells ((dgC H (.slice au LT cu) n).set 9 (.int .i64 (n + (L : Int)))).toArray 88)).heap.size = P + 1 := by rw [hP]; simp
  have hd0 : W1.heap[P]? = some (.cells (dgC H (.slice au LT cu) (n + (L : Int))).toArray 88 (0, 0)) := by
    rw [hW1, hP, ← hCs]
    rw [(World.grownBy_alloc (w.alloc (.cells ((dgC H (.slice au LT cu) n).set 9 (.int .i64 (n + (L : Int)))).toArray 88)) (.cells #[.int .u32 0, .int .u32 0, .int .u32 0, .int .u32 0, .int .u32 0, .int .u32 0, .int .u32 0, .int .u32 0, .slice none 0 0, .int .i64 0] 88) none).block w.heap.size (by simp) (by simp)]
    exact World.alloc_heap_new w _
  have hd12 : W1.heap[P + 1]? = some (.cells #[.int .u32 0, .int .u32 0, .int .u32 0, .int .u32 0, .int .u32 0, .int .u32 0, .int .u32 0, .int .u32 0, .slice none 0 0, .int .i64 0] 88 (0, 0)) := by
    rw [hW1, ← hz1]
    exact World.alloc_heap_new _ _
  have hda2 : DgAt W1 P H (.slice au LT cu) (n + (L : Int)) := by
    refine ⟨fun j x hj => ?_, fun j hj => ⟨?_, frozen_of_row W1 P _ _ _ hd0⟩⟩
    · rw [cell_of_row W1 P _ _ _ _ hd0, Nat.zero_add]
      simpa using hj
    · rw [cell_of_row W1 P _ _ _ _ hd0, Nat.zero_add]
      simp [dgC_len hh, hj]
  have hb1 : Below P w W1 := by rw [hW1, hP]; exact ((Below.refl _ _).alloc (Nat.le_refl _) _).alloc (by simp) _
  have c9e : ((w.alloc (.cells (dgC H (.slice au LT cu) n).toArray 88)).alloc (.cells #[.int .u32 0, .int .u32 0, .int .u32 0, .int .u32 0, .int .u32 0, .int .u32 0, .int .u32 0, .int .u32 0, .slice none 0 0, .int .i64 0] 88)).cell? ⟨w.heap.size, 9, none⟩ = some (.int .i64 n) := by
    rw [World.cell?_alloc_lt _ _ _ (by simp)]
    rw [cell_of_row _ _ _ _ _ _ (World.alloc_heap_new w _)]
    unfold dgC
    simp [hh]
  have c8e := hda2.c8 hh
  rw [hW1, hP] at c8e
  have HW1 := Lib.hid hW1
  have HP := Lib.hid hP
  have HD := Lib.hid hda2
  have HB := Lib.hid hb1
  have HD1 := Lib.hid hd12
  have HLL := Lib.hid hL
  have HLT := Lib.hid hLT
  rw [hLT] at HU
  rw [hL] at HV
  clear hu hv hg hRH hRT hL hLT hP hz1 hd0 hda2 hb1 hd12 hW1 hCs
  go_enter Tryd.func52, Tryd.ntmps52
  go_wp2_with fail
  rw [← HW1.out, ← HP.out]
  clear c9e c8e HW1
  have hcl := cloneS T (.slice au LT cu) W1 (HU.out.below (HB.out.mono (Nat.le_of_eq HP.out.symm))) (by rw [HLT.out]; omega)
  rw [HLT.out] at hcl
  refine hcl.mono ?_
  clear hcl
  rintro e w2 ⟨v2, rfl, ho2, b2⟩
  have hPW : P + 1 < W1.heap.size := (Array.getElem?_eq_some_iff.1 HD1.out).1
  have HD2 := Lib.hid (HD.out.below b2 (by omega))
  have HD12 : Hid (w2.heap[P + 1]? = some (.cells #[.int .u32 0, .int .u32 0, .int .u32 0, .int .u32 0, .int .u32 0, .int .u32 0, .int .u32 0, .int .u32 0, .slice none 0 0, .int .i64 0] 88 (0, 0))) := (b2.block (P + 1) hPW).trans HD1.out
  have HB2 := Lib.hid (HB.out.trans (b2.mono (by omega)))
  obtain ⟨a2, cap2, rfl, -, -⟩ := owns_slice ho2
  have HO2 := Lib.hid ho2
  have HS1 : Hid (W1.heap.size ≤ w2.heap.size) := b2.size
  have hvv : Rd w2 (.slice av L cv) 1 b.length (bts b) := HV.out.below (HB2.out.mono (Nat.le_of_eq HP.out.symm))
  rw [HLL.out] at hvv
  have HVV := Lib.hid hvv
  have HNN : Hid (LT + L ≤ maxLen) := by show _ ≤ _; unfold maxLen; omega
  clear ho2 b2 HD HD1 HB
  go_wp2_with (at_builtin; go_must (refine wpList_append_rd rfl _ _ 53 rfl W1.heap.size 5 _ 1 1 Tryd.underlying53 infoB rfl (by decide) (.slice a2 LT cap2) LT (bts T) rfl HO2.out _ L (bts b) rfl HVV.out (bts_one _) HNN.out (by omega) HS1.out ?_))
  intro v4 w4 hv4 hg4
  have hlt4 : ∀ k, (Value.slice a2 LT cap2).ownBlock = some k → W1.heap.size ≤ k := fun k hk => (HO2.out.lt k hk).1
  have hb4 : Below W1.heap.size w2 w4 := (Below.refl _ _).grown hg4 HS1.out hlt4
  have HD4 := Lib.hid (HD2.out.below hb4 (by omega))
  have HD14 : Hid (w4.heap[P + 1]? = some (.cells #[.int .u32 0, .int .u32 0, .int .u32 0, .int .u32 0, .int .u32 0, .int .u32 0, .int .u32 0, .int .u32 0, .slice none 0 0, .int .i64 0] 88 (0, 0))) := (hb4.block (P + 1) hPW).trans HD12.out
  have HB4 := Lib.hid (HB2.out.trans (hb4.mono (by omega)))
  have HR4 : Hid (IsBts w4 v4 (T ++ b)) := by
    have h := hv4
    rw [← bts_append, ← HLT.out, ← HLL.out, ← List.length_append] at h
    exact IsBts.of_owns h
  have hRl : (T ++ b).length ≤ 101000 := by rw [List.length_append, HLT.out, HLL.out]; omega
  obtain ⟨R0, hR0⟩ : ∃ R, T ++ b = R := ⟨_, rfl⟩
  rw [hR0] at HR4 HRR hRl
  have hap4 : ∀ k, v4.ownBlock = some k → k ≠ P := fun k hk => by have := (hv4.lt k hk).1; omega
  obtain ⟨a4, c4, rfl, -, -, -⟩ := HR4.out.open
  clear hv4 hg4 hb4 hlt4 HO2 HVV hvv HD2 HD12 HB2 HS1 hR0
  go_wp2_with fail
  go_loopw [5] (fun r wr => ∃ (H' T' : List Int) (ar : Option Addr) (cr : Nat), r = .slice ar T'.length cr ∧ (∀ k, (Value.slice ar T'.length cr).ownBlock = some k → k ≠ P) ∧ Hid (IsBts wr (.slice ar T'.length cr) T') ∧ H'.length = 8 ∧ T'.length ≤ 101000 ∧ Hid (dgRun KS H' T' = (RH, RT)) ∧ Hid (DgAt wr P H' (.slice au LT cu) (n + (L : Int))) ∧ Hid (wr.heap[P + 1]? = some (.cells #[.int .u32 0, .int .u32 0, .int .u32 0, .int .u32 0, .int .u32 0, .int .u32 0, .int .u32 0, .int .u32 0, .slice none 0 0, .int .i64 0] 88 (0, 0))) ∧ Hid (Below P w wr)) (fun r _ => (lenOfV r))
  case atStart => exact ⟨H, R0, _, _, rfl, hap4, HR4, hh, hRl, HRR, HD4, HD14, HB4⟩
  case round =>
    obtain ⟨H', T', ar, cr, rfl, hap, HT, hh', htl, HRUN, HDG, HD1R, HBB⟩ := hrel
    by_cases h64 : 64 ≤ T'.length
    · have h64I : (64 : Int) ≤ (T'.length : Int) := by omega
      obtain ⟨ar', cr', e', htm, hcr, hcT⟩ := HT.out.open
      simp only [Value.slice.injEq, true_and] at e'
      obtain ⟨rfl, rfl⟩ := e'
      obtain ⟨b9, o9, rfl, -⟩ := hcT 0 (by omega)
      have HGX := Lib.hid (range_below HG.out HBB.out hP0)
      have hrun := HRUN.out
      rw [dgRun_step h64] at hrun
      have hbl := block_any KS H' T' hh' hk h64 _ wr HT.out HGX.out
      have hNl := blkF_len KS H' T' hh'
      obtain ⟨NB, hNB⟩ : ∃ x, blkF KS H' T' = x := ⟨_, rfl⟩
      rw [hNB] at hbl hNl hrun
      have HRUN2 := Lib.hid hrun
      have HBL := Lib.hid hbl
      have hPr : P + 1 < wr.heap.size := (Array.getElem?_eq_some_iff.1 HD1R.out).1
      clear hbl hNB hrun hcT
      go_wp2_with (refine wpList_load_mid rfl 86 _ rfl P 0 rfl (H'.map (Value.int .u32)) _ HDG.out.rh Tryd.underlying86 rfl (by rw [info8]; simp [hh']) ?_)
      refine HBL.out.mono ?_
      rintro e w5 ⟨rfl, b5⟩
      have HDG5 := Lib.hid (HDG.out.below b5 (by omega))
      have hd5 : w5.heap[P + 1]? = some (.cells #[.int .u32 0, .int .u32 0, .int .u32 0, .int .u32 0, .int .u32 0, .int .u32 0, .int .u32 0, .int .u32 0, .slice none 0 0, .int .i64 0] 88 (0, 0)) := (b5.block (P + 1) hPr).trans HD1R.out
      have HT5 := Lib.hid (HT.out.below b5)
      have HB5 := Lib.hid (HBB.out.trans (b5.mono (by omega)))
      have hgs := grownBy_setCells P (NB.map (Value.int .u32)) 0 w5
      have hPr5 : P + 1 < w5.heap.size := (Array.getElem?_eq_some_iff.1 hd5).1
      have hbs : Below P w5 (w5.setCells P 0 (NB.map (Value.int .u32))) := (Below.refl _ _).grown hgs (by omega) (fun k hk => by have := Option.some.inj hk; omega)
      have HDGN := Lib.hid (HDG5.out.setH hh' hNl)
      have HD1N : Hid ((w5.setCells P 0 (NB.map (Value.int .u32))).heap[P + 1]? = some (.cells #[.int .u32 0, .int .u32 0, .int .u32 0, .int .u32 0, .int .u32 0, .int .u32 0, .int .u32 0, .int .u32 0, .slice none 0 0, .int .i64 0] 88 (0, 0))) := (hgs.block (P + 1) hPr5 (by intro e; have := Option.some.inj e; omega)).trans hd5
      have HBN := Lib.hid (HB5.out.trans hbs)
      have hbP : b9 ≠ P := hap b9 rfl
      have HTS : Hid (IsBts (w5.setCells P 0 (NB.map (Value.int .u32))) (.slice (some ⟨b9, o9, none⟩) T'.length cr) T') := Rd.same HT5.out (fun k hk hv => hgs.block k hk (by intro e; exact hap _ hv (Option.some.inj e)))
      clear HBL b5 hd5 hgs hbs HRUN hPr5
      by_cases hc64 : cr = 64
      · have ht64 : T'.length = 64 := by omega
        have hdl : (T'.drop 64).length = 0 := by rw [List.length_drop]; omega
        have HTN : Hid (IsBts (w5.setCells P 0 (NB.map (Value.int .u32))) (.slice (some ⟨b9, o9, none⟩) (T'.drop 64).length 0) (T'.drop 64)) := by
          rw [List.drop_eq_nil_of_le (by omega)]
          exact Rd.nil _ _ _ _
        have hapN : ∀ k, (Value.slice (some ⟨b9, o9, none⟩) (T'.drop 64).length 0).ownBlock = some k → k ≠ P := fun k hk => hap k hk
        subst hc64
        go_wp2_with (refine wpList_store_mid rfl 86 _ _ rfl P 0 (NB.map (Value.int .u32)).toArray rfl rfl (fun j hj => HDG5.out.th j (by simp [hNl] at hj; omega)) (by rw [info8]; simp [hNl]) (u32_one _) ?_)
        go_roundw
        case rel => exact ⟨NB, T'.drop 64, _, _, by rw [hdl], hapN, HTN.out, hNl, by rw [List.length_drop]; omega, HRUN2, HDGN, HD1N, HBN⟩
        case measure => simp [lenOfV]; omega
      · have hdl : (T'.drop 64).length = T'.length - 64 := List.length_drop
        have htn := IsBts.drop HTS.out 64 h64
        rw [← hdl] at htn
        have HTN := Lib.hid htn
        have hapN : ∀ k, (Value.slice (some ⟨b9, o9 + 64, none⟩) (T'.drop 64).length (cr - 64)).ownBlock = some k → k ≠ P := fun k hk => hap k hk
        clear htn
        go_wp2_with (refine wpList_store_mid rfl 86 _ _ rfl P 0 (NB.map (Value.int .u32)).toArray rfl rfl (fun j hj => HDG5.out.th j (by simp [hNl] at hj; omega)) (by rw [info8]; simp [hNl]) (u32_one _) ?_)
        go_roundw
        case rel => exact ⟨NB, T'.drop 64, _, _, by rw [hdl], hapN, HTN.out, hNl, by rw [List.length_drop]; omega, HRUN2, HDGN, HD1N, HBN⟩
        case measure => simp [lenOfV]; omega
    · have h64I : ¬ (64 : Int) ≤ (T'.length : Int) := by omega
      have hrun := HRUN.out
      rw [dgRun_end h64] at hrun
      injection hrun with e1 e2
      subst e1
      subst e2
      have hcl := cloneS T' _ wr HT.out (by omega)
      have HCL := Lib.hid hcl
      have hPr : P + 1 < wr.heap.size := (Array.getElem?_eq_some_iff.1 HD1R.out).1
      obtain ⟨W5, rfl⟩ : ∃ W5 : World, W5 = wr := ⟨_, rfl⟩
      clear hcl HRUN
      go_wp2_with fail
      refine HCL.out.mono ?_
      rintro e w6 ⟨v6, rfl, ho6, b6⟩
      have hd6 := HDG.out.below b6 (by omega)
      have HD6 := Lib.hid hd6
      have c86 : w6.cell? ⟨P, 8, none⟩ = some (.slice au LT cu) := hd6.c8 hh'
      have f86 : w6.frozen? ⟨P, 8, none⟩ = false := hd6.fr (by omega)
      have hz6 : w6.heap[P + 1]? = some (.cells #[.int .u32 0, .int .u32 0, .int .u32 0, .int .u32 0, .int .u32 0, .int .u32 0, .int .u32 0, .int .u32 0, .slice none 0 0, .int .i64 0] 88 (0, 0)) := (b6.block (P + 1) hPr).trans HD1R.out
      have HI6 := Lib.hid (IsBts.of_owns ho6)
      have HB6 := Lib.hid (HBB.out.trans (b6.mono (by omega)))
      obtain ⟨a6, cp6, rfl, -, -⟩ := owns_slice ho6
      have hap6 : ∀ k, (Value.slice a6 T'.length cp6).ownBlock = some k → k ≠ P ∧ k ≠ P + 1 := fun k hk => by have := (ho6.lt k hk).1; omega
      obtain ⟨W7, hW7⟩ : ∃ W7, W7 = w6.setCell ⟨P, 8, none⟩ (.slice a6 T'.length cp6) := ⟨_, rfl⟩
      have hd7 : DgAt W7 P H' (.slice a6 T'.length cp6) (n + (L : Int)) := by rw [hW7]; exact hd6.setT hh'
      have hz7 : W7.heap[P + 1]? = some (.cells #[.int .u32 0, .int .u32 0, .int .u32 0, .int .u32 0, .int .u32 0, .int .u32 0, .int .u32 0, .int .u32 0, .slice none 0 0, .int .i64 0] 88 (0, 0)) := by rw [hW7]; exact (Below.heap_setCell _ _ _ _ (by show P + 1 ≠ P; omega)).trans hz6
      have hg7 : w6.grownBy W7 (some P) := by rw [hW7]; exact grownBy_setCellA _ _ _ _
      have hi7 : IsBts W7 (.slice a6 T'.length cp6) T' := Rd.same HI6.out (fun k hk hv => hg7.block k hk (fun e => (hap6 k hv).1 (Option.some.inj e)))
      have hb7 : Below P w W7 := HB6.out.grown hg7 (by have := b6.size; omega) (fun k hk => by have := Option.some.inj hk; omega)
      have hrl := hd7.rg
      have hcl7 : (dgC H' (.slice a6 T'.length cp6) (n + (L : Int))).length = 10 := dgC_len hh' _ _
      obtain ⟨C7, hC7⟩ : ∃ C, dgC H' (.slice a6 T'.length cp6) (n + (L : Int)) = C := ⟨_, rfl⟩
      have h17 : C7.toArray.all (·.oneCell') = true := by rw [← hC7]; simp [dgC, Value.oneCell']
      rw [hC7] at hrl hcl7
      have HZR : Hid ((W7.setRow (P + 1) C7.toArray).heap[P + 1]? = some (.cells C7.toArray 88 (0, 0))) := setRow_heap _ _ _ _ _ _ hz7
      have HIR : Hid (IsBts (W7.setRow (P + 1) C7.toArray) (.slice a6 T'.length cp6) T') := Rd.same hi7 (fun k _ hv => setRow_other _ _ _ _ (fun e => (hap6 k hv).2 e))
      have HBR : Hid (Below w.heap.size w (W7.setRow (P + 1) C7.toArray)) := by
        rw [← HP.out]
        exact hb7.trans ⟨rfl, rfl, rfl, by simp, fun k hk => setRow_other W7 (P + 1) k _ (by omega)⟩
      have HRL := Lib.hid hrl
      have HZ7 := Lib.hid hz7
      have HC7 := Lib.hid hC7
      have HW7 := Lib.hid hW7
      rw [hW7] at hrl hz7
      have HRLe := Lib.hid hrl
      have HZ7e := Lib.hid hz7
      clear ho6 b6 hd6 hz6 hW7 hd7 hz7 hg7 hi7 hb7 hrl hC7 HCL hap6
      go_wp2_with (first
        | (refine wpList_load_mid rfl 88 _ rfl P 0 rfl C7 _ HRLe.out Tryd.underlying88 rfl (by rw [info10, hcl7]) ?_)
        | (refine wpList_store_row rfl 88 _ _ rfl (P + 1) C7.toArray rfl rfl 88 _ HZ7e.out (by rw [info10]; simp [hcl7]) (by simp [hcl7]) h17 ?_))
      rw [← HW7.out]
      refine bodyPost_ret (results_cell_row rfl _ _ (P + 1) 88 C7.toArray (0, 0) _ rfl HZR.out Tryd.underlying88 rfl (by rw [info10]; simp [hcl7])) rfl ?_
      exact ⟨⟨_, by rw [HC7.out], HIR.out⟩, HBR.out⟩

end Go.Proofs.YtgfnelpfoegdaaaDoor
