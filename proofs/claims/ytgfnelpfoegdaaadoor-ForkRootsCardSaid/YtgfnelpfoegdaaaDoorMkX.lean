/-
  merkle.Extends$1 (climb), the right step. (Printed by wip/tools/gen_dgd.py.)
-/
import Derived.Test.YtgfnelpfoegdaaaDoorMkW
namespace Go.Proofs.YtgfnelpfoegdaaaDoor
open Go.RowKit

set_option maxHeartbeats 2000000 in
set_option maxRecDepth 100000 in
theorem mkClimbR (KS old A B : List Int) (m n K po pt pc p i j cap : Nat) (bw : Bool) (a : Option Addr) (path : List (List Int)) (w : World) (hC : Cl w KS old po pt pc p a cap path (i + 1)) (hi : i < path.length)
    (hA : A.length = 32) (hB : B.length = 32) (hn2 : 2 ≤ n) (hn : n ≤ 65536) (hmn : m < n) (hK : sp2 n = K) (hmK : ¬ m ≤ K)
    (ih : ∀ w3, Cl w3 KS old po pt pc p a cap path i → Calls Tryd.prog 36 #[.int .i64 ((m : Int) - (K : Int)), .int .i64 ((n : Int) - (K : Int)), .bool false, .pointer (some ⟨po, 0, none⟩), .pointer (some ⟨pt, 0, none⟩), .pointer (some ⟨pc, 0, none⟩)] w3 fun e w' =>
      e = .returned (.tuple #[.agg (A.map (Value.int .u8)).toArray, .agg (B.map (Value.int .u8)).toArray]) ∧ Tk w' p a cap path j ∧ Kb w3 w' (p + 1)) :
    Calls Tryd.prog 36 #[.int .i64 m, .int .i64 n, .bool bw, .pointer (some ⟨po, 0, none⟩), .pointer (some ⟨pt, 0, none⟩), .pointer (some ⟨pc, 0, none⟩)] w fun e w' =>
      e = .returned (.tuple #[.agg ((nodeF KS path[i] A).map (Value.int .u8)).toArray, .agg ((nodeF KS path[i] B).map (Value.int .u8)).toArray]) ∧ Tk w' p a cap path j ∧ Kb w w' (p + 1) := by
  obtain ⟨X, hX⟩ : ∃ X, path[i] = X := ⟨_, rfl⟩
  have ho : X.length = 32 := by rw [← hX]; exact hC.tk.is.2 _ (List.getElem_mem hi)
  obtain ⟨P, hP⟩ : ∃ P, P = w.heap.size := ⟨_, rfl⟩
  obtain ⟨W1, hW1⟩ : ∃ W1, W1 = (w.alloc (.cells #[.int .u8 0, .int .u8 0, .int .u8 0, .int .u8 0, .int .u8 0, .int .u8 0, .int .u8 0, .int .u8 0, .int .u8 0, .int .u8 0, .int .u8 0, .int .u8 0, .int .u8 0, .int .u8 0, .int .u8 0, .int .u8 0, .int .u8 0, .int .u8 0, .int .u8 0, .int .u8 0, .int .u8 0, .int .u8 0, .int .u8 0, .int .u8 0, .int .u8 0, .int .u8 0, .int .u8 0, .int .u8 0, .int .u8 0, .int .u8 0, .int .u8 0, .int .u8 0] 33)).alloc (.cells #[.int .u8 0, .int .u8 0, .int .u8 0, .int .u8 0, .int .u8 0, .int .u8 0, .int .u8 0, .int .u8 0, .int .u8 0, .int .u8 0, .int .u8 0, .int .u8 0, .int .u8 0, .int .u8 0, .int .u8 0, .int .u8 0, .int .u8 0, .int .u8 0, .int .u8 0, .int .u8 0, .int .u8 0, .int .u8 0, .int .u8 0, .int .u8 0, .int .u8 0, .int .u8 0, .int .u8 0, .int .u8 0, .int .u8 0, .int .u8 0, .int .u8 0, .int .u8 0] 33) := ⟨_, rfl⟩
  have hz1 : NRow W1 .u8 P 33 (List.replicate 32 0) := by rw [hW1, hP]; exact (NRow.new w .u8 33 (List.replicate 32 0)).alloc _
  have hz2 : NRow W1 .u8 (P + 1) 33 (List.replicate 32 0) := by
    have h := NRow.new (w.alloc (.cells #[.int .u8 0, .int .u8 0, .int .u8 0, .int .u8 0, .int .u8 0, .int .u8 0, .int .u8 0, .int .u8 0, .int .u8 0, .int .u8 0, .int .u8 0, .int .u8 0, .int .u8 0, .int .u8 0, .int .u8 0, .int .u8 0, .int .u8 0, .int .u8 0, .int .u8 0, .int .u8 0, .int .u8 0, .int .u8 0, .int .u8 0, .int .u8 0, .int .u8 0, .int .u8 0, .int .u8 0, .int .u8 0, .int .u8 0, .int .u8 0, .int .u8 0, .int .u8 0] 33)) .u8 33 (List.replicate 32 0)
    rw [show (w.alloc (.cells #[.int .u8 0, .int .u8 0, .int .u8 0, .int .u8 0, .int .u8 0, .int .u8 0, .int .u8 0, .int .u8 0, .int .u8 0, .int .u8 0, .int .u8 0, .int .u8 0, .int .u8 0, .int .u8 0, .int .u8 0, .int .u8 0, .int .u8 0, .int .u8 0, .int .u8 0, .int .u8 0, .int .u8 0, .int .u8 0, .int .u8 0, .int .u8 0, .int .u8 0, .int .u8 0, .int .u8 0, .int .u8 0, .int .u8 0, .int .u8 0, .int .u8 0, .int .u8 0] 33)).heap.size = P + 1 by rw [hP]; simp] at h
    rw [hW1]; exact h
  have hb1 : Below P w W1 := by rw [hW1, hP]; exact ((Below.refl _ _).alloc (Nat.le_refl _) _).alloc (by simp) _
  have hpm : p + 1 + 1 < P := by rw [hP]; exact hC.tk.miss.lt
  have hk1 : Kb w W1 (p + 1) := Kb.of_below (hP ▸ hb1) (by omega)
  have hC1 : Cl W1 KS old po pt pc p a cap path (i + 1) := hC.kb hk1 (hC.tk.off hb1 hpm)
  have htc := hC1.take.cell
  unfold takeV at htc
  rw [hW1] at htc
  have HTK := mkTake path a cap p i W1 hC1.tk hi
  rw [hX] at HTK ⊢
  obtain ⟨RES, hRES⟩ : ∃ R, nodeF KS X B = R := ⟨_, rfl⟩
  have hRl : RES.length = 32 := by rw [← hRES]; exact nodeF_len _ _ _
  rw [hRES]
  obtain ⟨REA, hREA⟩ : ∃ R, nodeF KS X A = R := ⟨_, rfl⟩
  have hAl : REA.length = 32 := by rw [← hREA]; exact nodeF_len _ _ _
  rw [hREA]
  have HRES := Lib.hid hRES
  have HREA := Lib.hid hREA
  clear hRES hREA
  have HTK := Lib.hid HTK
  have HC1 := Lib.hid hC1
  have HK1 := Lib.hid hk1
  have HB1 := Lib.hid hb1
  have HZ1 := Lib.hid hz1
  have HZ2 := Lib.hid hz2
  have HP := Lib.hid hP
  have HW1 := Lib.hid hW1
  have HPM := Lib.hid hpm
  have HSP : Hid (∀ w7, Calls Tryd.prog 32 #[.int .i64 n] w7 fun e w' => e = .returned (.int .i64 K) ∧ w' = w7) := fun w7 => hK ▸ mkSplit n w7 hn2 hn
  have HIH := Lib.hid ih
  have hKn : K < n := by rw [← hK]; exact sp2_lt hn2
  have hne : ¬ ((m : Int) = (n : Int)) := by omega
  have hle : ¬ (m : Int) ≤ (K : Int) := by omega
  have hw1 : IntKind.i64.wrap ((m : Int) - (K : Int)) = (m : Int) - (K : Int) := by rw [IntKind.wrap_i64]; omega
  have hw2 : IntKind.i64.wrap ((n : Int) - (K : Int)) = (n : Int) - (K : Int) := by rw [IntKind.wrap_i64]; omega
  have hbe : ((m : Int) == (n : Int)) = false := by simp only [beq_eq_false_iff_ne, ne_eq]; exact hne
  have hde : decide ((m : Int) ≤ (K : Int)) = false := by simp only [decide_eq_false_iff_not]; exact hle
  clear hC hz1 hz2 hb1 hC1 hk1 hP hW1 hX hpm ih hK
  go_enter Tryd.func36, Tryd.ntmps36
  go_wp2_with fail
  rw [← HW1.out, ← HP.out]
  refine HTK.out.mono ?_
  rintro e w2 ⟨rfl, hT2, hk2⟩
  obtain ⟨Q, hQ⟩ : ∃ Q, Q = w2.heap.size := ⟨_, rfl⟩
  have hzQ : NRow (w2.alloc (.cells #[.int .u8 0, .int .u8 0, .int .u8 0, .int .u8 0, .int .u8 0, .int .u8 0, .int .u8 0, .int .u8 0, .int .u8 0, .int .u8 0, .int .u8 0, .int .u8 0, .int .u8 0, .int .u8 0, .int .u8 0, .int .u8 0, .int .u8 0, .int .u8 0, .int .u8 0, .int .u8 0, .int .u8 0, .int .u8 0, .int .u8 0, .int .u8 0, .int .u8 0, .int .u8 0, .int .u8 0, .int .u8 0, .int .u8 0, .int .u8 0, .int .u8 0, .int .u8 0] 33)) .u8 Q 33 (List.replicate 32 0) := by rw [hQ]; exact NRow.new w2 .u8 33 (List.replicate 32 0)
  obtain ⟨W3, hW3⟩ : ∃ W3, W3 = (w2.alloc (.cells #[.int .u8 0, .int .u8 0, .int .u8 0, .int .u8 0, .int .u8 0, .int .u8 0, .int .u8 0, .int .u8 0, .int .u8 0, .int .u8 0, .int .u8 0, .int .u8 0, .int .u8 0, .int .u8 0, .int .u8 0, .int .u8 0, .int .u8 0, .int .u8 0, .int .u8 0, .int .u8 0, .int .u8 0, .int .u8 0, .int .u8 0, .int .u8 0, .int .u8 0, .int .u8 0, .int .u8 0, .int .u8 0, .int .u8 0, .int .u8 0, .int .u8 0, .int .u8 0] 33)).setRow Q (X.map (Value.int .u8)).toArray := ⟨_, rfl⟩
  have hpm := HPM.out
  have hz21 : NRow w2 .u8 P 33 (List.replicate 32 0) := hk2.row HZ1.out (by omega)
  have hz22 : NRow w2 .u8 (P + 1) 33 (List.replicate 32 0) := hk2.row HZ2.out (by omega)
  have hQP := hz22.lt
  have hb3 : Below w2.heap.size w2 W3 := by rw [hW3, hQ]; exact below_setRow ((Below.refl _ _).alloc (Nat.le_refl _) _) _ _ (Nat.le_refl _)
  have hz31 : NRow W3 .u8 P 33 (List.replicate 32 0) := hz21.below hb3 (by omega)
  have hz32 : NRow W3 .u8 (P + 1) 33 (List.replicate 32 0) := hz22.below hb3 (by omega)
  have hzX : NRow W3 .u8 Q 33 X := by rw [hW3]; exact hzQ.store
  have hk23 : Kb w2 W3 (p + 1) := Kb.of_below hb3 (by omega)
  have hk3 : Kb w W3 (p + 1) := (HK1.out.trans hk2).trans hk23
  have hC3 : Cl W3 KS old po pt pc p a cap path i := HC1.out.kb (hk2.trans hk23) (hT2.kb hb3)
  have hcc := hC3.climb.cell
  unfold climbV at hcc
  have HCL := Lib.hid (HIH.out W3 hC3)
  have hPQ : P + 1 < Q := by omega
  have HZ31 := Lib.hid hz31
  have HZ32 := Lib.hid hz32
  have HZX := Lib.hid hzX
  have HZQ := Lib.hid hzQ
  have HQ := Lib.hid hQ
  have HW3 := Lib.hid hW3
  have HK3 := Lib.hid hk3
  have HC3 := Lib.hid hC3
  clear hT2 hk2 hQ hzQ hW3 hpm hz21 hz22 hQP hb3 hz31 hz32 hzX hk23 hk3 hC3 HTK HB1 HZ1 HZ2 HW1 HIH HC1 HK1
  go_wp2_with
    (first
      | (go_at_call 32
         refine (HSP.out _).mono ?_
         rintro e w7 ⟨rfl, h7⟩
         obtain rfl := h7.symm)
      | (rw [← HQ.out]; refine wpList_store_row rfl 33 _ _ rfl Q (X.map (Value.int .u8)).toArray rfl rfl 33 _ HZQ.out (by rw [info32]; simp [ho]) (by simp [ho]) (u8_all _) ?_; rw [← HW3.out]))
  refine HCL.out.mono ?_
  rintro e w4 ⟨rfl, hT4, hk4⟩
  obtain ⟨R, hR⟩ : ∃ R, R = w4.heap.size := ⟨_, rfl⟩
  obtain ⟨V5, hV5⟩ : ∃ V, V = (w4.alloc (.cells #[.int .u8 0, .int .u8 0, .int .u8 0, .int .u8 0, .int .u8 0, .int .u8 0, .int .u8 0, .int .u8 0, .int .u8 0, .int .u8 0, .int .u8 0, .int .u8 0, .int .u8 0, .int .u8 0, .int .u8 0, .int .u8 0, .int .u8 0, .int .u8 0, .int .u8 0, .int .u8 0, .int .u8 0, .int .u8 0, .int .u8 0, .int .u8 0, .int .u8 0, .int .u8 0, .int .u8 0, .int .u8 0, .int .u8 0, .int .u8 0, .int .u8 0, .int .u8 0] 33)).alloc (.cells #[.int .u8 0, .int .u8 0, .int .u8 0, .int .u8 0, .int .u8 0, .int .u8 0, .int .u8 0, .int .u8 0, .int .u8 0, .int .u8 0, .int .u8 0, .int .u8 0, .int .u8 0, .int .u8 0, .int .u8 0, .int .u8 0, .int .u8 0, .int .u8 0, .int .u8 0, .int .u8 0, .int .u8 0, .int .u8 0, .int .u8 0, .int .u8 0, .int .u8 0, .int .u8 0, .int .u8 0, .int .u8 0, .int .u8 0, .int .u8 0, .int .u8 0, .int .u8 0] 33) := ⟨_, rfl⟩
  obtain ⟨V6, hV6⟩ : ∃ V, V = V5.setRow R (A.map (Value.int .u8)).toArray := ⟨_, rfl⟩
  obtain ⟨V7, hV7⟩ : ∃ V, V = V6.setRow (R + 1) (B.map (Value.int .u8)).toArray := ⟨_, rfl⟩
  have hpm := HPM.out
  have hy1 : NRow V5 .u8 R 33 (List.replicate 32 0) := by rw [hV5, hR]; exact (NRow.new w4 .u8 33 (List.replicate 32 0)).alloc _
  have hy2 : NRow V5 .u8 (R + 1) 33 (List.replicate 32 0) := by
    have h := NRow.new (w4.alloc (.cells #[.int .u8 0, .int .u8 0, .int .u8 0, .int .u8 0, .int .u8 0, .int .u8 0, .int .u8 0, .int .u8 0, .int .u8 0, .int .u8 0, .int .u8 0, .int .u8 0, .int .u8 0, .int .u8 0, .int .u8 0, .int .u8 0, .int .u8 0, .int .u8 0, .int .u8 0, .int .u8 0, .int .u8 0, .int .u8 0, .int .u8 0, .int .u8 0, .int .u8 0, .int .u8 0, .int .u8 0, .int .u8 0, .int .u8 0, .int .u8 0, .int .u8 0, .int .u8 0] 33)) .u8 33 (List.replicate 32 0)
    rw [show (w4.alloc (.cells #[.int .u8 0, .int .u8 0, .int .u8 0, .int .u8 0, .int .u8 0, .int .u8 0, .int .u8 0, .int .u8 0, .int .u8 0, .int .u8 0, .int .u8 0, .int .u8 0, .int .u8 0, .int .u8 0, .int .u8 0, .int .u8 0, .int .u8 0, .int .u8 0, .int .u8 0, .int .u8 0, .int .u8 0, .int .u8 0, .int .u8 0, .int .u8 0, .int .u8 0, .int .u8 0, .int .u8 0, .int .u8 0, .int .u8 0, .int .u8 0, .int .u8 0, .int .u8 0] 33)).heap.size = R + 1 by rw [hR]; simp] at h
    rw [hV5]; exact h
  have hy61 : NRow V6 .u8 R 33 A := by rw [hV6]; exact hy1.store
  have hy62 : NRow V6 .u8 (R + 1) 33 (List.replicate 32 0) := by rw [hV6]; exact (setRow_other V5 R (R + 1) _ (by omega)).trans hy2
  have hy71 : NRow V7 .u8 R 33 A := by rw [hV7]; exact (setRow_other V6 (R + 1) R _ (by omega)).trans hy61
  have hy72 : NRow V7 .u8 (R + 1) 33 B := by rw [hV7]; exact hy62.store
  have hbV : Below w4.heap.size w4 V7 := by
    rw [hV7, hV6, hV5, hR]
    exact below_setRow (below_setRow (((Below.refl _ _).alloc (Nat.le_refl _) _).alloc (by simp) _) _ _ (Nat.le_refl _)) _ _ (by omega)
  have hz41 : NRow w4 .u8 P 33 (List.replicate 32 0) := hk4.row HZ31.out (by omega)
  have hz42 : NRow w4 .u8 (P + 1) 33 (List.replicate 32 0) := hk4.row HZ32.out (by omega)
  have hq4 : NRow w4 .u8 Q 33 X := hk4.row HZX.out (by omega)
  have hQR := hq4.lt
  have hz71 : NRow V7 .u8 P 33 (List.replicate 32 0) := hz41.below hbV (by omega)
  have hz72 : NRow V7 .u8 (P + 1) 33 (List.replicate 32 0) := hz42.below hbV (by omega)
  have hq7 : NRow V7 .u8 Q 33 X := hq4.below hbV (by omega)
  have hk47 : Kb w4 V7 (p + 1) := Kb.of_below hbV (by omega)
  have hk7 : Kb w V7 (p + 1) := (HK3.out.trans hk4).trans hk47
  have hT7 : Tk V7 p a cap path j := hT4.kb hbV
  have hC7 : Cl V7 KS old po pt pc p a cap path j := HC3.out.kb (hk4.trans hk47) hT7
  have hnd := dgNode KS X A V7.drew hC7.ks1 ho hA hC7.ks
  rw [HREA.out] at hnd
  have HND := Lib.hid hnd
  have HND2 : Hid (∀ w8, Below V7.drew.heap.size V7.drew w8 → Calls Tryd.prog 33 #[.agg (X.map (Value.int .u8)).toArray, .agg (B.map (Value.int .u8)).toArray] w8 fun e w' => e = .returned (.agg (RES.map (Value.int .u8)).toArray) ∧ Below w8.heap.size w8 w') := fun w8 b8 => by
    have hks : V7.drew.rangeAt 0 0 (KS.map (Value.int .u32)) := hC7.ks
    have h0 := hy71.drew.lt
    have h := dgNode KS X B w8 hC7.ks1 ho hB (range_below hks b8 (by omega))
    rwa [HRES.out] at h
  have HY1 := Lib.hid hy1
  have HY62 := Lib.hid hy62
  have HY71 := Lib.hid hy71
  have HY72 := Lib.hid hy72
  have HQ7 := Lib.hid hq7
  have HZ71 := Lib.hid hz71
  have HZ72 := Lib.hid hz72
  have HK7 := Lib.hid hk7
  have HT7 := Lib.hid hT7
  have HR := Lib.hid hR
  have HV5 := Lib.hid hV5
  have HV6 := Lib.hid hV6
  have HV7 := Lib.hid hV7
  have hQR2 : Q < R := by omega
  have hiA : (Tryd.prog.info? 33).map (·.size) = some (A.map (Value.int .u8)).length := by rw [info32]; simp [hA]
  have hiB : (Tryd.prog.info? 33).map (·.size) = some (B.map (Value.int .u8)).length := by rw [info32]; simp [hB]
  have hiX : (Tryd.prog.info? 33).map (·.size) = some (X.map (Value.int .u8)).length := by rw [info32]; simp [ho]
  have hlA : (A.map (Value.int .u8)).length = 32 := by simp [hA]
  have hlB : (B.map (Value.int .u8)).length = 32 := by simp [hB]
  have hlX : (X.map (Value.int .u8)).length = 32 := by simp [ho]
  have hlR : (RES.map (Value.int .u8)).length = 32 := by simp [hRl]
  have hlE : (REA.map (Value.int .u8)).length = 32 := by simp [hAl]
  clear hT4 hk4 hR hV5 hV6 hV7 hpm hy1 hy2 hy61 hy62 hy71 hy72 hbV hz41 hz42 hq4 hQR hz71 hz72 hq7 hk47 hk7 hT7 hC7 hnd HCL HZ31 HZ32 HZX HZQ HK3 HC3
  go_wp2_with
    (first
      | (rw [← HV5.out, ← HR.out]; refine wpList_store_row rfl 33 _ _ rfl R (A.map (Value.int .u8)).toArray rfl rfl 33 _ HY1.out (by rw [info32]; simp [hA]) (by simp [hA]) (u8_all _) ?_; rw [← HV6.out])
      | (refine wpList_store_row rfl 33 _ _ rfl (R + 1) (B.map (Value.int .u8)).toArray rfl rfl 33 _ HY62.out (by rw [info32]; simp [hB]) (by simp [hB]) (u8_all _) ?_; rw [← HV7.out]))
  refine wp_region_held_drew (S := fun w' => w'.rangeAt R 0 (A.map (Value.int .u8)) ∧ w'.rangeAt (R + 1) 0 (B.map (Value.int .u8)) ∧ w'.rangeAt Q 0 (X.map (Value.int .u8))) (by kernel_rfl) ⟨HY71.out.drew.range, HY72.out.drew.range, HQ7.out.drew.range⟩ (fun hHeld => ?_)
  refine wpAnyH_take (i := 0) (v := .agg (X.map (Value.int .u8)).toArray) rfl (by kernel_rfl) (by kernel_rfl) (by kernel_rfl) (fun _ _ _ h => h) (yieldsIf_load_mid (by rfl) _ _ rfl Q 0 rfl (X.map (Value.int .u8)) _ (fun w h => h.2.2) Tryd.underlying33 rfl hiX) hHeld ?_
  simp only [Act.put, List.setIfInBounds_toArray, List.set_cons_zero, List.set_cons_succ]
  refine wpAnyH_take (i := 1) (v := .agg (A.map (Value.int .u8)).toArray) rfl (by kernel_rfl) (by kernel_rfl) (by kernel_rfl) (fun _ _ _ h => h) (yieldsIf_load_mid (by rfl) _ _ rfl R 0 rfl (A.map (Value.int .u8)) _ (fun w h => h.1) Tryd.underlying33 rfl hiA) hHeld ?_
  simp only [Act.put, List.setIfInBounds_toArray, List.set_cons_zero, List.set_cons_succ]
  refine wpAnyH_take (i := 3) (v := .agg (X.map (Value.int .u8)).toArray) rfl (by kernel_rfl) (by kernel_rfl) (by kernel_rfl) (fun _ _ _ h => h) (yieldsIf_load_mid (by rfl) _ _ rfl Q 0 rfl (X.map (Value.int .u8)) _ (fun w h => h.2.2) Tryd.underlying33 rfl hiX) hHeld ?_
  simp only [Act.put, List.setIfInBounds_toArray, List.set_cons_zero, List.set_cons_succ]
  refine wpAnyH_take (i := 4) (v := .agg (B.map (Value.int .u8)).toArray) rfl (by kernel_rfl) (by kernel_rfl) (by kernel_rfl) (fun _ _ _ h => h) (yieldsIf_load_mid (by rfl) _ _ rfl (R + 1) 0 rfl (B.map (Value.int .u8)) _ (fun w h => h.2.1) Tryd.underlying33 rfl hiB) hHeld ?_
  simp only [Act.put, List.setIfInBounds_toArray, List.set_cons_zero, List.set_cons_succ]
  refine wpAnyH_ready (rs := [2]) (by kernel_rfl) (by simp) ?_
  refine AllReadyH.cons rfl (fun K hK => ?_) AllReadyH.nil
  rw [if_pos (by rfl)]
  go_simp
  go_at_call 33
  refine HND.out.mono ?_
  rintro e w8 ⟨rfl, b8⟩
  have hS8 : w8.rangeAt R 0 (A.map (Value.int .u8)) ∧ w8.rangeAt (R + 1) 0 (B.map (Value.int .u8)) ∧ w8.rangeAt Q 0 (X.map (Value.int .u8)) :=
    ⟨range_below hHeld.1 b8 HY71.out.drew.lt, range_below hHeld.2.1 b8 HY72.out.drew.lt, range_below hHeld.2.2 b8 HQ7.out.drew.lt⟩
  have HND3 := Lib.hid (HND2.out w8 b8)
  have B8 := Lib.hid b8
  clear hHeld b8
  refine hK.out _ _ hS8 (fun hHeld => ?_)
  clear hK K hS8
  refine wpAnyH_ready (rs := [5]) (by kernel_rfl) (by simp) ?_
  refine AllReadyH.cons rfl (fun K hK => ?_) AllReadyH.nil
  rw [if_pos (by rfl)]
  go_simp
  go_at_call 33
  refine HND3.out.mono ?_
  rintro e w9 ⟨rfl, b9⟩
  have b8 := B8.out
  have h8s := b8.size
  have hz81 : NRow w9 .u8 P 33 (List.replicate 32 0) := (HZ71.out.drew.below b8 HZ71.out.drew.lt).below b9 (HZ71.out.drew.below b8 HZ71.out.drew.lt).lt
  have hz82 : NRow w9 .u8 (P + 1) 33 (List.replicate 32 0) := (HZ72.out.drew.below b8 HZ72.out.drew.lt).below b9 (HZ72.out.drew.below b8 HZ72.out.drew.lt).lt
  have hz12 : NRow (w9.setCells P 0 (REA.map (Value.int .u8))) .u8 (P + 1) 33 (List.replicate 32 0) := hz82.setO hz81 rfl hAl (by omega)
  have hb9 : Below P V7 w9 := ((Below.refl _ _).drew.trans (b8.mono (Nat.le_of_lt HZ71.out.drew.lt))).trans (b9.mono (by have := HZ71.out.drew.lt; omega))
  have hbF : Below P V7 ((w9.setCells P 0 (REA.map (Value.int .u8))).setCells (P + 1) 0 (RES.map (Value.int .u8))) := below_setC (below_setC hb9 hz81 rfl hAl (Nat.le_refl _)) hz12 rfl hRl (by omega)
  have HF : Hid (NRow ((w9.setCells P 0 (REA.map (Value.int .u8))).setCells (P + 1) 0 (RES.map (Value.int .u8))) .u8 P 33 REA ∧ NRow ((w9.setCells P 0 (REA.map (Value.int .u8))).setCells (P + 1) 0 (RES.map (Value.int .u8))) .u8 (P + 1) 33 RES ∧ Tk ((w9.setCells P 0 (REA.map (Value.int .u8))).setCells (P + 1) 0 (RES.map (Value.int .u8))) p a cap path j ∧ Kb w ((w9.setCells P 0 (REA.map (Value.int .u8))).setCells (P + 1) 0 (RES.map (Value.int .u8))) (p + 1)) :=
    ⟨(hz81.setC rfl hAl).setO hz12 rfl hRl (by omega), hz12.setC rfl hRl, HT7.out.off hbF HPM.out, ⟨HK7.out.below.trans (hbF.mono (by have := HPM.out; omega)), fun k hk hq => (hbF.block k (by have := HP.out; omega)).trans (HK7.out.keep k hk hq)⟩⟩
  have hS9 : w9.rangeAt R 0 (A.map (Value.int .u8)) ∧ w9.rangeAt (R + 1) 0 (B.map (Value.int .u8)) ∧ w9.rangeAt Q 0 (X.map (Value.int .u8)) :=
    ⟨range_below hHeld.1 b9 (by have := HY71.out.drew.lt; omega), range_below hHeld.2.1 b9 (by have := HY72.out.drew.lt; omega), range_below hHeld.2.2 b9 (by have := HQ7.out.drew.lt; omega)⟩
  clear hHeld b8 h8s
  refine hK.out _ _ hS9 (fun hHeld => ?_)
  clear hK K hS9
  refine wpAnyH_ready (rs := [6]) (by kernel_rfl) (by simp) ?_
  refine AllReadyH.cons rfl (fun K hK => ?_) AllReadyH.nil
  rw [if_pos (by rfl)]
  refine wp_store_mid _ _ _ rfl P 0 (REA.map (Value.int .u8)).toArray rfl rfl (hz81.there (by simp [hAl])) (by rw [info32]; simp [hAl]) (u8_all _) ?_
  refine hK.out _ _ ⟨(World.rangeAt_setCells_apart hHeld.1 _ _ _ (by omega)), (World.rangeAt_setCells_apart hHeld.2.1 _ _ _ (by omega)), (World.rangeAt_setCells_apart hHeld.2.2 _ _ _ (by omega))⟩ (fun hHeld => ?_)
  clear hK K
  simp only [Act.put, List.setIfInBounds_toArray, List.set_cons_zero, List.set_cons_succ]
  refine wpAnyH_ready (rs := [7]) (by kernel_rfl) (by simp) ?_
  refine AllReadyH.cons rfl (fun K hK => ?_) AllReadyH.nil
  rw [if_pos (by rfl)]
  refine wp_store_mid _ _ _ rfl (P + 1) 0 (RES.map (Value.int .u8)).toArray rfl rfl (hz12.there (by simp [hRl])) (by rw [info32]; simp [hRl]) (u8_all _) ?_
  refine hK.out _ _ ⟨(World.rangeAt_setCells_apart hHeld.1 _ _ _ (by omega)), (World.rangeAt_setCells_apart hHeld.2.1 _ _ _ (by omega)), (World.rangeAt_setCells_apart hHeld.2.2 _ _ _ (by omega))⟩ (fun hHeld => ?_)
  clear hK K
  simp only [Act.put, List.setIfInBounds_toArray, List.set_cons_zero, List.set_cons_succ]
  refine wpAnyH_done (by kernel_rfl) ?_ _
  go_wp2_with fail
  refine bodyPost_ret (results_two_rows rfl _ _ P (P + 1) 33 (REA.map (Value.int .u8)).toArray (RES.map (Value.int .u8)).toArray (0, 0) _ rfl rfl HF.out.1 HF.out.2.1 Tryd.underlying33 rfl (by rw [info32]; simp [hAl]) (by rw [info32]; simp [hRl])) rfl ?_
  exact ⟨rfl, HF.out.2.2.1, HF.out.2.2.2⟩

end Go.Proofs.YtgfnelpfoegdaaaDoor
