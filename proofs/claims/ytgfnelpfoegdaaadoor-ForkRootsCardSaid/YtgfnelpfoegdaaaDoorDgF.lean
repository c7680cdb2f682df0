/-
  digest.Sum and digest.Leaf. (Printed by wip/tools/gen_dgd.py.)
-/
import Derived.Test.YtgfnelpfoegdaaaDoorDgE
namespace Go.Proofs.YtgfnelpfoegdaaaDoor
open Go.RowKit

def sumF (KS b : List Int) : List Int := closeF KS (dgRun KS dgH0 b).1 (dgRun KS dgH0 b).2 b.length
theorem sumF_len (KS b : List Int) : (sumF KS b).length = 32 := closeF_len _ _ _ _
def leafF (KS b : List Int) : List Int :=
  closeF KS (dgRun KS (dgRun KS dgH0 [0]).1 ((dgRun KS dgH0 [0]).2 ++ b)).1 (dgRun KS (dgRun KS dgH0 [0]).1 ((dgRun KS dgH0 [0]).2 ++ b)).2 (1 + b.length)
theorem leafF_len (KS b : List Int) : (leafF KS b).length = 32 := closeF_len _ _ _ _

set_option maxHeartbeats 1000000 in
set_option maxRecDepth 100000 in
theorem dgSum (KS b : List Int) (v : Value) (w : World) (hk : KS.length = 64) (hv : IsBts w v b) (hg : w.rangeAt 0 0 (KS.map (Value.int .u32))) (hb : b.length ≤ 100000) :
    Calls Tryd.prog 31 #[v] w fun e w' => e = .returned (.agg ((sumF KS b).map (Value.int .u8)).toArray) ∧ Below w.heap.size w w' := by
  obtain ⟨RES, hRES⟩ : ∃ R, sumF KS b = R := ⟨_, rfl⟩
  have hRl : RES.length = 32 := by rw [← hRES]; exact sumF_len _ _
  rw [hRES]
  have HRES := Lib.hid hRES
  have hP0 : 0 < w.heap.size := by have h9 := hg 0 (.int .u32 KS[0]) (by simp [hk]); exact World.block_lt_of_cell? w _ h9
  obtain ⟨P, hP⟩ : ∃ P, P = w.heap.size := ⟨_, rfl⟩
  obtain ⟨W1, hW1⟩ : ∃ W1, W1 = w.alloc (.cells #[.int .u8 0, .int .u8 0, .int .u8 0, .int .u8 0, .int .u8 0, .int .u8 0, .int .u8 0, .int .u8 0, .int .u8 0, .int .u8 0, .int .u8 0, .int .u8 0, .int .u8 0, .int .u8 0, .int .u8 0, .int .u8 0, .int .u8 0, .int .u8 0, .int .u8 0, .int .u8 0, .int .u8 0, .int .u8 0, .int .u8 0, .int .u8 0, .int .u8 0, .int .u8 0, .int .u8 0, .int .u8 0, .int .u8 0, .int .u8 0, .int .u8 0, .int .u8 0] 33) := ⟨_, rfl⟩
  have hd1 : NRow W1 .u8 P 33 (List.replicate 32 0) := by rw [hW1, hP]; exact World.alloc_heap_new _ _
  have hb1 : Below P w W1 := by rw [hW1, hP]; exact (Below.refl _ _).alloc (Nat.le_refl _) _
  have hPW : P < W1.heap.size := hd1.lt
  have HN := Lib.hid (dgNew W1)
  have HV := Lib.hid hv
  have HG := Lib.hid hg
  have HB1 := Lib.hid hb1
  have HZ1 := Lib.hid hd1
  have HP := Lib.hid hP
  have HW1 := Lib.hid hW1
  obtain ⟨av, cv, rfl, -, -, -⟩ := hv.open
  obtain ⟨L, hL⟩ : ∃ L, b.length = L := ⟨_, rfl⟩
  have HL := Lib.hid hL
  clear hRES hW1 hd1 hb1 hv hg hP hL
  go_enter Tryd.func31, Tryd.ntmps31
  go_wp2_with fail
  rw [← HW1.out, ← HP.out]
  refine HN.out.mono ?_
  rintro e w2 ⟨rfl, b2⟩
  have hB2 := HB1.out.trans (b2.mono (by omega))
  have HZ2 := Lib.hid (HZ1.out.below b2 hPW)
  have HB2 := Lib.hid hB2
  have hwr := dgWrite KS dgH0 [] b (.slice none 0 0) (.slice av b.length cv) 0 w2 rfl hk (Rd.nil _ _ _ _) (HV.out.below (hB2.mono (Nat.le_of_eq HP.out.symm))) (range_below HG.out hB2 (by rw [HP.out]; exact hP0)) (by simp) hb ⟨Int.le_refl _, by decide⟩
  rw [List.nil_append, Int.zero_add] at hwr
  have hrl := dgRun_len KS _ dgH0 b (Nat.le_refl _) rfl
  have hce : closeF KS (dgRun KS dgH0 b).1 (dgRun KS dgH0 b).2 (b.length : Int) = RES := by rw [← HRES.out]; rfl
  obtain ⟨H1, hH1⟩ : ∃ x, (dgRun KS dgH0 b).1 = x := ⟨_, rfl⟩
  obtain ⟨T1, hT1⟩ : ∃ x, (dgRun KS dgH0 b).2 = x := ⟨_, rfl⟩
  rw [hH1, hT1] at hwr hrl hce
  have HWR := Lib.hid hwr
  clear hH1 hT1 hwr hB2 b2 HN HB1 HZ1 HW1
  go_wp2_with fail
  refine HWR.out.mono ?_
  rintro e w3 ⟨⟨u3, rfl, hu3⟩, b3⟩
  have hB3 := HB2.out.trans (b3.mono (by have := HZ2.out.lt; omega))
  have HZ3 := Lib.hid (HZ2.out.below b3 HZ2.out.lt)
  have HB3 := Lib.hid hB3
  have hcl := dgClose KS H1 T1 u3 (b.length : Int) w3 hrl.1 hk hu3 (range_below HG.out hB3 (by rw [HP.out]; exact hP0)) (by omega) (by omega)
  rw [hce] at hcl
  have HCL := Lib.hid hcl
  clear hcl hce hB3 b3 HWR HB2 HZ2 hu3
  go_wp2_with fail
  refine HCL.out.mono ?_
  rintro e w4 ⟨rfl, b4⟩
  have HZ4 := Lib.hid (HZ3.out.below b4 HZ3.out.lt)
  have hB4 := HB3.out.trans (b4.mono (by have := HZ3.out.lt; omega))
  have HZF : Hid (NRow (w4.setRow P (RES.map (Value.int .u8)).toArray) .u8 P 33 RES) := HZ4.out.store
  have HBF : Hid (Below w.heap.size w (w4.setRow P (RES.map (Value.int .u8)).toArray)) := by
    rw [← HP.out]
    exact hB4.trans ⟨rfl, rfl, rfl, by simp, fun k hk => setRow_other w4 P k _ (by omega)⟩
  clear hB4 b4 HCL HB3 HZ3
  go_wp2_with (refine wpList_store_row rfl 33 _ _ rfl P (RES.map (Value.int .u8)).toArray rfl rfl 33 _ HZ4.out (by rw [info32]; simp [hRl]) (by simp [hRl]) (u8_all _) ?_)
  refine bodyPost_ret (results_cell_row rfl _ _ P 33 (RES.map (Value.int .u8)).toArray (0, 0) _ rfl HZF.out Tryd.underlying33 rfl (by rw [info32]; simp [hRl])) rfl ?_
  exact ⟨rfl, HBF.out⟩

set_option maxHeartbeats 1000000 in
set_option maxRecDepth 100000 in
theorem dgLeaf (KS b : List Int) (v : Value) (w : World) (hk : KS.length = 64) (hv : IsBts w v b) (hg : w.rangeAt 0 0 (KS.map (Value.int .u32))) (hb : b.length ≤ 100000) :
    Calls Tryd.prog 26 #[v] w fun e w' => e = .returned (.agg ((leafF KS b).map (Value.int .u8)).toArray) ∧ Below w.heap.size w w' := by
  obtain ⟨RES, hRES⟩ : ∃ R, leafF KS b = R := ⟨_, rfl⟩
  have hRl : RES.length = 32 := by rw [← hRES]; exact leafF_len _ _
  rw [hRES]
  have hP0 : 0 < w.heap.size := by have h9 := hg 0 (.int .u32 KS[0]) (by simp [hk]); exact World.block_lt_of_cell? w _ h9
  obtain ⟨P, hP⟩ : ∃ P, P = w.heap.size := ⟨_, rfl⟩
  obtain ⟨W1, hW1⟩ : ∃ W1, W1 = w.alloc (.cells #[.int .u8 0, .int .u8 0, .int .u8 0, .int .u8 0, .int .u8 0, .int .u8 0, .int .u8 0, .int .u8 0, .int .u8 0, .int .u8 0, .int .u8 0, .int .u8 0, .int .u8 0, .int .u8 0, .int .u8 0, .int .u8 0, .int .u8 0, .int .u8 0, .int .u8 0, .int .u8 0, .int .u8 0, .int .u8 0, .int .u8 0, .int .u8 0, .int .u8 0, .int .u8 0, .int .u8 0, .int .u8 0, .int .u8 0, .int .u8 0, .int .u8 0, .int .u8 0] 33) := ⟨_, rfl⟩
  have hd1 : NRow W1 .u8 P 33 (List.replicate 32 0) := by rw [hW1, hP]; exact World.alloc_heap_new _ _
  have hb1 : Below P w W1 := by rw [hW1, hP]; exact (Below.refl _ _).alloc (Nat.le_refl _) _
  have hPW : P < W1.heap.size := hd1.lt
  have HN := Lib.hid (dgNew W1)
  have HV := Lib.hid hv
  have HG := Lib.hid hg
  have HB1 := Lib.hid hb1
  have HZ1 := Lib.hid hd1
  have HP := Lib.hid hP
  have HW1 := Lib.hid hW1
  have hrl1 := dgRun_len KS _ dgH0 [0] (Nat.le_refl _) rfl
  have hce : closeF KS (dgRun KS (dgRun KS dgH0 [0]).1 ((dgRun KS dgH0 [0]).2 ++ b)).1 (dgRun KS (dgRun KS dgH0 [0]).1 ((dgRun KS dgH0 [0]).2 ++ b)).2 (1 + b.length) = RES := by rw [← hRES]; rfl
  have hw1 := fun (v0 : Value) (W : World) (hi : IsBts W v0 [0]) (hr : W.rangeAt 0 0 (KS.map (Value.int .u32))) => dgWrite KS dgH0 [] [0] (.slice none 0 0) v0 0 W rfl hk (Rd.nil _ _ _ _) hi hr (by simp) (by simp) ⟨Int.le_refl _, by decide⟩
  simp only [List.nil_append, Int.zero_add, List.length_singleton] at hw1
  obtain ⟨H1, hH1⟩ : ∃ x, (dgRun KS dgH0 [0]).1 = x := ⟨_, rfl⟩
  obtain ⟨T1, hT1⟩ : ∃ x, (dgRun KS dgH0 [0]).2 = x := ⟨_, rfl⟩
  rw [hH1, hT1] at hrl1 hce
  simp only [hH1, hT1] at hw1
  have hrl2 := dgRun_len KS _ H1 (T1 ++ b) (Nat.le_refl _) hrl1.1
  have hw2 := fun (u v : Value) (W : World) (hu : IsBts W u T1) (hv : IsBts W v b) (hr : W.rangeAt 0 0 (KS.map (Value.int .u32))) => dgWrite KS H1 T1 b u v 1 W hrl1.1 hk hu hv hr (by omega) hb ⟨by decide, by decide⟩
  obtain ⟨H2, hH2⟩ : ∃ x, (dgRun KS H1 (T1 ++ b)).1 = x := ⟨_, rfl⟩
  obtain ⟨T2, hT2⟩ : ∃ x, (dgRun KS H1 (T1 ++ b)).2 = x := ⟨_, rfl⟩
  rw [hH2, hT2] at hrl2 hce
  simp only [hH2, hT2] at hw2
  have HA := Lib.hid hw1
  have HB := Lib.hid hw2
  have HCE := Lib.hid hce
  obtain ⟨av, cv, rfl, -, -, -⟩ := hv.open
  clear hRES hW1 hd1 hb1 hv hg hP hH1 hT1 hH2 hT2 hw1 hw2 hce
  go_enter Tryd.func26, Tryd.ntmps26
  go_wp2_with fail
  rw [← HW1.out, ← HP.out]
  refine HN.out.mono ?_
  rintro e w2 ⟨rfl, b2⟩
  have b2' : Below W1.heap.size W1 (w2.alloc (.cells #[.int .u8 0] 5)) := b2.alloc b2.size _
  have hB2 := HB1.out.trans (b2'.mono (by omega))
  have HZ2 := Lib.hid (HZ1.out.below b2' hPW)
  have HB2 := Lib.hid hB2
  have hl0 : IsBts (w2.alloc (.cells #[.int .u8 0] 5)) (.slice (some ⟨w2.heap.size, 0, none⟩) 1 1) [0] := Rd.lit w2 #[.int .u8 0] 5 1 1 rfl (by unfold maxLen; omega)
  have HWR := Lib.hid (HA.out _ _ hl0 (range_below HG.out hB2 (by rw [HP.out]; exact hP0)))
  clear hB2 b2 b2' HN HB1 HZ1 HW1 HA hl0
  go_wp2_with fail
  refine HWR.out.mono ?_
  rintro e w3 ⟨⟨u3, rfl, hu3⟩, b3⟩
  have hB3 := HB2.out.trans (b3.mono (by have := HZ2.out.lt; omega))
  have HZ3 := Lib.hid (HZ2.out.below b3 HZ2.out.lt)
  have HB3 := Lib.hid hB3
  have HWS := Lib.hid (HB.out u3 _ w3 hu3 (HV.out.below (hB3.mono (Nat.le_of_eq HP.out.symm))) (range_below HG.out hB3 (by rw [HP.out]; exact hP0)))
  clear hB3 b3 HWR HB2 HZ2 hu3 HB
  go_wp2_with fail
  refine HWS.out.mono ?_
  rintro e w5 ⟨⟨u5, rfl, hu5⟩, b5⟩
  have hB5 := HB3.out.trans (b5.mono (by have := HZ3.out.lt; omega))
  have HZ5 := Lib.hid (HZ3.out.below b5 HZ3.out.lt)
  have HB5 := Lib.hid hB5
  have hcl := dgClose KS H2 T2 u5 (1 + (b.length : Int)) w5 hrl2.1 hk hu5 (range_below HG.out hB5 (by rw [HP.out]; exact hP0)) (by omega) (by omega)
  rw [HCE.out] at hcl
  have HCL := Lib.hid hcl
  clear hcl hB5 b5 HWS HB3 HZ3 hu5
  go_wp2_with fail
  refine HCL.out.mono ?_
  rintro e w4 ⟨rfl, b4⟩
  have HZ4 := Lib.hid (HZ5.out.below b4 HZ5.out.lt)
  have hB4 := HB5.out.trans (b4.mono (by have := HZ5.out.lt; omega))
  have HZF : Hid (NRow (w4.setRow P (RES.map (Value.int .u8)).toArray) .u8 P 33 RES) := HZ4.out.store
  have HBF : Hid (Below w.heap.size w (w4.setRow P (RES.map (Value.int .u8)).toArray)) := by
    rw [← HP.out]
    exact hB4.trans ⟨rfl, rfl, rfl, by simp, fun k hk => setRow_other w4 P k _ (by omega)⟩
  clear hB4 b4 HCL HB5 HZ5
  go_wp2_with (refine wpList_store_row rfl 33 _ _ rfl P (RES.map (Value.int .u8)).toArray rfl rfl 33 _ HZ4.out (by rw [info32]; simp [hRl]) (by simp [hRl]) (u8_all _) ?_)
  refine bodyPost_ret (results_cell_row rfl _ _ P 33 (RES.map (Value.int .u8)).toArray (0, 0) _ rfl HZF.out Tryd.underlying33 rfl (by rw [info32]; simp [hRl])) rfl ?_
  exact ⟨rfl, HBF.out⟩

end Go.Proofs.YtgfnelpfoegdaaaDoor
