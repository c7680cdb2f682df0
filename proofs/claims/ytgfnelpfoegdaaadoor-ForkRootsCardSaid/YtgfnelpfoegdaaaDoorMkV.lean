/-
  merkle.Extends$1 (climb) where m is n and the old tree is not whole. (Printed by wip/tools/gen_dgd.py.)
-/
import Derived.Test.YtgfnelpfoegdaaaDoorMkU
namespace Go.Proofs.YtgfnelpfoegdaaaDoor
open Go.RowKit

def takeV (p : Nat) : Value := .func (.func 59) #[] #[.pointer (some ⟨p + 1, 0, none⟩), .pointer (some ⟨p + 1 + 1, 0, none⟩), .pointer (some ⟨p, 0, none⟩)]

theorem Tk.off {w w' : World} {p i q : Nat} {a : Option Addr} {cap : Nat} {hs : List (List Int)} (h : Tk w p a cap hs i) (hb : Below q w w') (hq : p + 1 + 1 < q) : Tk w' p a cap hs i :=
  ⟨(hb.block _ (by omega)).trans h.path, (hb.block _ (by omega)).trans h.left, (hb.block _ hq).trans h.miss, by
    by_cases h0 : hs = []
    · subst h0; exact IsHs.nil w' a cap
    · exact ⟨h.is.1.belowB hb (fun k hk => by
        have h1 := h.own (List.length_pos_iff.2 h0) k (by cases a with
          | none => cases hk
          | some ad => exact hk)
        omega), h.is.2⟩, h.own, h.le, h.few⟩

set_option maxHeartbeats 1000000 in
set_option maxRecDepth 100000 in
theorem mkClimbTake (m po pt pc p i cap : Nat) (a : Option Addr) (path : List (List Int)) (w : World) (hT : Tk w p a cap path (i + 1)) (hi : i < path.length) (ht : Boxed w pt 68 (takeV p)) :
    Calls Tryd.prog 36 #[.int .i64 m, .int .i64 m, .bool false, .pointer (some ⟨po, 0, none⟩), .pointer (some ⟨pt, 0, none⟩), .pointer (some ⟨pc, 0, none⟩)] w fun e w' =>
      e = .returned (.tuple #[.agg ((path[i]).map (Value.int .u8)).toArray, .agg ((path[i]).map (Value.int .u8)).toArray]) ∧ Tk w' p a cap path i ∧ Kb w w' (p + 1) := by
  obtain ⟨X, hX⟩ : ∃ X, path[i] = X := ⟨_, rfl⟩
  have ho : X.length = 32 := by rw [← hX]; exact hT.is.2 _ (List.getElem_mem hi)
  obtain ⟨P, hP⟩ : ∃ P, P = w.heap.size := ⟨_, rfl⟩
  obtain ⟨W1, hW1⟩ : ∃ W1, W1 = (w.alloc (.cells #[.int .u8 0, .int .u8 0, .int .u8 0, .int .u8 0, .int .u8 0, .int .u8 0, .int .u8 0, .int .u8 0, .int .u8 0, .int .u8 0, .int .u8 0, .int .u8 0, .int .u8 0, .int .u8 0, .int .u8 0, .int .u8 0, .int .u8 0, .int .u8 0, .int .u8 0, .int .u8 0, .int .u8 0, .int .u8 0, .int .u8 0, .int .u8 0, .int .u8 0, .int .u8 0, .int .u8 0, .int .u8 0, .int .u8 0, .int .u8 0, .int .u8 0, .int .u8 0] 33)).alloc (.cells #[.int .u8 0, .int .u8 0, .int .u8 0, .int .u8 0, .int .u8 0, .int .u8 0, .int .u8 0, .int .u8 0, .int .u8 0, .int .u8 0, .int .u8 0, .int .u8 0, .int .u8 0, .int .u8 0, .int .u8 0, .int .u8 0, .int .u8 0, .int .u8 0, .int .u8 0, .int .u8 0, .int .u8 0, .int .u8 0, .int .u8 0, .int .u8 0, .int .u8 0, .int .u8 0, .int .u8 0, .int .u8 0, .int .u8 0, .int .u8 0, .int .u8 0, .int .u8 0] 33) := ⟨_, rfl⟩
  have hz1 : NRow W1 .u8 P 33 (List.replicate 32 0) := by rw [hW1, hP]; exact (NRow.new w .u8 33 (List.replicate 32 0)).alloc _
  have hz2 : NRow W1 .u8 (P + 1) 33 (List.replicate 32 0) := by
    have h := NRow.new (w.alloc (.cells #[.int .u8 0, .int .u8 0, .int .u8 0, .int .u8 0, .int .u8 0, .int .u8 0, .int .u8 0, .int .u8 0, .int .u8 0, .int .u8 0, .int .u8 0, .int .u8 0, .int .u8 0, .int .u8 0, .int .u8 0, .int .u8 0, .int .u8 0, .int .u8 0, .int .u8 0, .int .u8 0, .int .u8 0, .int .u8 0, .int .u8 0, .int .u8 0, .int .u8 0, .int .u8 0, .int .u8 0, .int .u8 0, .int .u8 0, .int .u8 0, .int .u8 0, .int .u8 0] 33)) .u8 33 (List.replicate 32 0)
    rw [show (w.alloc (.cells #[.int .u8 0, .int .u8 0, .int .u8 0, .int .u8 0, .int .u8 0, .int .u8 0, .int .u8 0, .int .u8 0, .int .u8 0, .int .u8 0, .int .u8 0, .int .u8 0, .int .u8 0, .int .u8 0, .int .u8 0, .int .u8 0, .int .u8 0, .int .u8 0, .int .u8 0, .int .u8 0, .int .u8 0, .int .u8 0, .int .u8 0, .int .u8 0, .int .u8 0, .int .u8 0, .int .u8 0, .int .u8 0, .int .u8 0, .int .u8 0, .int .u8 0, .int .u8 0] 33)).heap.size = P + 1 by rw [hP]; simp] at h
    rw [hW1]; exact h
  have hb1 : Below P w W1 := by rw [hW1, hP]; exact ((Below.refl _ _).alloc (Nat.le_refl _) _).alloc (by simp) _
  have hpm : p + 1 + 1 < P := by rw [hP]; exact hT.miss.lt
  have hT1 : Tk W1 p a cap path (i + 1) := hT.off hb1 hpm
  have ht1 : Boxed W1 pt 68 (takeV p) := (hb1.block _ (by rw [hP]; exact ht.lt)).trans ht
  have htc := ht1.cell
  unfold takeV at htc
  rw [hW1] at htc
  have HTK := mkTake path a cap p i W1 hT1 hi
  rw [hX] at HTK ⊢
  have HTK := Lib.hid HTK
  have HB1 := Lib.hid hb1
  have HZ1 := Lib.hid hz1
  have HZ2 := Lib.hid hz2
  have HP := Lib.hid hP
  have HW1 := Lib.hid hW1
  have HPM := Lib.hid hpm
  clear hT ht hz1 hz2 hb1 hT1 ht1 hP hW1 hX hpm
  go_enter Tryd.func36, Tryd.ntmps36
  go_wp2_with fail
  rw [← HW1.out, ← HP.out]
  refine HTK.out.mono ?_
  rintro e w2 ⟨rfl, hT2, hk2⟩
  obtain ⟨Q, hQ⟩ : ∃ Q, Q = w2.heap.size := ⟨_, rfl⟩
  have hzQ : NRow (w2.alloc (.cells #[.int .u8 0, .int .u8 0, .int .u8 0, .int .u8 0, .int .u8 0, .int .u8 0, .int .u8 0, .int .u8 0, .int .u8 0, .int .u8 0, .int .u8 0, .int .u8 0, .int .u8 0, .int .u8 0, .int .u8 0, .int .u8 0, .int .u8 0, .int .u8 0, .int .u8 0, .int .u8 0, .int .u8 0, .int .u8 0, .int .u8 0, .int .u8 0, .int .u8 0, .int .u8 0, .int .u8 0, .int .u8 0, .int .u8 0, .int .u8 0, .int .u8 0, .int .u8 0] 33)) .u8 Q 33 (List.replicate 32 0) := by rw [hQ]; exact NRow.new w2 .u8 33 (List.replicate 32 0)
  obtain ⟨W3, hW3⟩ : ∃ W3, W3 = (w2.alloc (.cells #[.int .u8 0, .int .u8 0, .int .u8 0, .int .u8 0, .int .u8 0, .int .u8 0, .int .u8 0, .int .u8 0, .int .u8 0, .int .u8 0, .int .u8 0, .int .u8 0, .int .u8 0, .int .u8 0, .int .u8 0, .int .u8 0, .int .u8 0, .int .u8 0, .int .u8 0, .int .u8 0, .int .u8 0, .int .u8 0, .int .u8 0, .int .u8 0, .int .u8 0, .int .u8 0, .int .u8 0, .int .u8 0, .int .u8 0, .int .u8 0, .int .u8 0, .int .u8 0] 33)).setRow Q (X.map (Value.int .u8)).toArray := ⟨_, rfl⟩
  have hpm := HPM.out
  have hz21 : NRow w2 .u8 P 33 (List.replicate 32 0) := hk2.row HZ1.out (by omega)
  have hz22 : NRow w2 .u8 (P + 1) 33 (List.replicate 32 0) := hk2.row HZ2.out (by omega)
  have hQP := hz22.lt
  have hb3 : Below w2.heap.size w2 W3 := by rw [hW3, hQ]; exact below_setRow ((Below.refl _ _).alloc (Nat.le_refl _) _) _ _ (Nat.le_refl _)
  have hz31 : NRow W3 .u8 P 33 (List.replicate 32 0) := hz21.below hb3 (by omega)
  have hz32 : NRow W3 .u8 (P + 1) 33 (List.replicate 32 0) := hz22.below hb3 (by omega)
  have hzX : NRow W3 .u8 Q 33 X := by rw [hW3]; exact hzQ.store
  have hT3 : Tk W3 p a cap path i := hT2.kb hb3
  have hk3 : Kb w W3 (p + 1) := ((Kb.of_below (HP.out ▸ HB1.out) (by have := HP.out; omega)).trans hk2).trans (Kb.of_below hb3 (by omega))
  have hz12 : NRow (W3.drew.setCells P 0 (X.map (Value.int .u8))) .u8 (P + 1) 33 (List.replicate 32 0) := hz32.drew.setO hz31.drew rfl ho (by omega)
  have hbF : Below P W3 ((W3.drew.setCells P 0 (X.map (Value.int .u8))).setCells (P + 1) 0 (X.map (Value.int .u8))) := below_setC (below_setC (Below.refl _ _).drew hz31.drew rfl ho (Nat.le_refl _)) hz12 rfl ho (by omega)
  have HF : Hid (NRow ((W3.drew.setCells P 0 (X.map (Value.int .u8))).setCells (P + 1) 0 (X.map (Value.int .u8))) .u8 P 33 X ∧ NRow ((W3.drew.setCells P 0 (X.map (Value.int .u8))).setCells (P + 1) 0 (X.map (Value.int .u8))) .u8 (P + 1) 33 X ∧ Tk ((W3.drew.setCells P 0 (X.map (Value.int .u8))).setCells (P + 1) 0 (X.map (Value.int .u8))) p a cap path i ∧ Kb w ((W3.drew.setCells P 0 (X.map (Value.int .u8))).setCells (P + 1) 0 (X.map (Value.int .u8))) (p + 1)) :=
    ⟨(hz31.drew.setC rfl ho).setO hz12 rfl ho (by omega), hz12.setC rfl ho, hT3.off hbF hpm, ⟨hk3.below.trans (hbF.mono (by omega)), fun k hk hq => (hbF.block k (by have := HP.out; omega)).trans (hk3.keep k hk hq)⟩⟩
  have hi32 : (Tryd.prog.info? 33).map (·.size) = some (X.map (Value.int .u8)).length := by rw [info32]; simp [ho]
  have hol : (X.map (Value.int .u8)).length = 32 := by simp [ho]
  have hPQ : P + 1 < Q := by omega
  have HZ31 := Lib.hid hz31
  have HZ12 := Lib.hid hz12
  have HZX := Lib.hid hzX
  have HZQ := Lib.hid hzQ
  have HQ := Lib.hid hQ
  have HW3 := Lib.hid hW3
  clear hT2 hk2 hQ hzQ hW3 hpm hz21 hz22 hQP hb3 hz31 hz32 hzX hT3 hk3 hz12 hbF HTK HB1 HZ1 HZ2 HW1 HPM
  go_wp2_with (rw [← HQ.out]; refine wpList_store_row rfl 33 _ _ rfl Q (X.map (Value.int .u8)).toArray rfl rfl 33 _ HZQ.out (by rw [info32]; simp [ho]) (by simp [ho]) (u8_all _) ?_; rw [← HW3.out])
  refine wp_region_held_drew (S := fun w' => w'.rangeAt Q 0 (X.map (Value.int .u8))) (by kernel_rfl) HZX.out.drew.range (fun hHeld => ?_)
  refine wpAnyH_take (i := 0) (v := .agg (X.map (Value.int .u8)).toArray) rfl (by kernel_rfl) (by kernel_rfl) (by kernel_rfl) (fun _ _ _ h => h) (yieldsIf_load_mid (by rfl) _ _ rfl Q 0 rfl (X.map (Value.int .u8)) _ (fun w h => h) Tryd.underlying33 rfl hi32) (by assumption) ?_
  simp only [Act.put, List.setIfInBounds_toArray, List.set_cons_zero, List.set_cons_succ]
  refine wpAnyH_take (i := 1) (v := .agg (X.map (Value.int .u8)).toArray) rfl (by kernel_rfl) (by kernel_rfl) (by kernel_rfl) (fun _ _ _ h => h) (yieldsIf_load_mid (by rfl) _ _ rfl Q 0 rfl (X.map (Value.int .u8)) _ (fun w h => h) Tryd.underlying33 rfl hi32) (by assumption) ?_
  simp only [Act.put, List.setIfInBounds_toArray, List.set_cons_zero, List.set_cons_succ]
  refine wpAnyH_ready (rs := [2]) (by kernel_rfl) (by simp) ?_
  refine AllReadyH.cons rfl (fun K hK => ?_) AllReadyH.nil
  rw [if_pos (by rfl)]
  refine wp_store_mid _ _ _ rfl P 0 (X.map (Value.int .u8)).toArray rfl rfl (HZ31.out.drew.there (by simp [ho])) (by rw [info32]; simp [ho]) (u8_all _) ?_
  refine hK.out _ _ (World.rangeAt_setCells_apart (by assumption) _ _ _ (by omega)) (fun hHeld => ?_)
  clear hK K
  simp only [Act.put, List.setIfInBounds_toArray, List.set_cons_zero, List.set_cons_succ]
  refine wpAnyH_ready (rs := [3]) (by kernel_rfl) (by simp) ?_
  refine AllReadyH.cons rfl (fun K hK => ?_) AllReadyH.nil
  rw [if_pos (by rfl)]
  refine wp_store_mid _ _ _ rfl (P + 1) 0 (X.map (Value.int .u8)).toArray rfl rfl (HZ12.out.there (by simp [ho])) (by rw [info32]; simp [ho]) (u8_all _) ?_
  refine hK.out _ _ (World.rangeAt_setCells_apart (by assumption) _ _ _ (by omega)) (fun hHeld => ?_)
  clear hK K
  simp only [Act.put, List.setIfInBounds_toArray, List.set_cons_zero, List.set_cons_succ]
  refine wpAnyH_done (by kernel_rfl) ?_ _
  go_wp2_with fail
  refine bodyPost_ret (results_two_rows rfl _ _ P (P + 1) 33 (X.map (Value.int .u8)).toArray (X.map (Value.int .u8)).toArray (0, 0) _ rfl rfl HF.out.1 HF.out.2.1 Tryd.underlying33 rfl (by rw [info32]; simp [ho]) (by rw [info32]; simp [ho])) rfl ?_
  exact ⟨rfl, HF.out.2.2.1, HF.out.2.2.2⟩

end Go.Proofs.YtgfnelpfoegdaaaDoor
