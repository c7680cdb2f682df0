/-
  digest.Node. (Printed by wip/tools/gen_dgd.py.)
-/
import Derived.Test.YtgfnelpfoegdaaaDoorDgG
import Derived.Deep.AppendLies
namespace Go.Proofs.YtgfnelpfoegdaaaDoor
open Go.RowKit

theorem IsBts.row {w : World} {g t n : Nat} {xs : List Int} (h : NRow w .u8 g t xs) (hn : xs.length = n) (hm : n ≤ 1000) : IsBts w (.slice (some ⟨g, 0, none⟩) n n) xs := by
  subst hn
  refine ⟨by simp [bts], by unfold maxLen; omega, _, _, rfl, Nat.le_refl _, fun j u hu => ⟨g, 0, rfl, ?_⟩⟩
  rw [Nat.zero_add, cell_of_row w g j _ t _ h]
  simpa [bts] using hu

set_option maxHeartbeats 2000000 in
set_option maxRecDepth 100000 in
theorem dgNode (KS a b : List Int) (w : World) (hk : KS.length = 64) (ha : a.length = 32) (hb : b.length = 32) (hg : w.rangeAt 0 0 (KS.map (Value.int .u32))) :
    Calls Tryd.prog 33 #[.agg (a.map (Value.int .u8)).toArray, .agg (b.map (Value.int .u8)).toArray] w fun e w' => e = .returned (.agg ((nodeF KS a b).map (Value.int .u8)).toArray) ∧ Below w.heap.size w w' := by
  obtain ⟨RES, hRES⟩ : ∃ R, nodeF KS a b = R := ⟨_, rfl⟩
  have hRl : RES.length = 32 := by rw [← hRES]; exact nodeF_len _ _ _
  rw [hRES]
  have HRES := Lib.hid hRES
  have hP0 : 0 < w.heap.size := by have h9 := hg 0 (.int .u32 KS[0]) (by simp [hk]); exact World.block_lt_of_cell? w _ h9
  obtain ⟨P, hP⟩ : ∃ P, P = w.heap.size := ⟨_, rfl⟩
  obtain ⟨W1, hW1⟩ : ∃ W1, W1 = ((w.alloc (.cells (a.map (Value.int .u8)).toArray 33)).alloc (.cells (b.map (Value.int .u8)).toArray 33)).alloc (.cells #[.int .u8 0, .int .u8 0, .int .u8 0, .int .u8 0, .int .u8 0, .int .u8 0, .int .u8 0, .int .u8 0, .int .u8 0, .int .u8 0, .int .u8 0, .int .u8 0, .int .u8 0, .int .u8 0, .int .u8 0, .int .u8 0, .int .u8 0, .int .u8 0, .int .u8 0, .int .u8 0, .int .u8 0, .int .u8 0, .int .u8 0, .int .u8 0, .int .u8 0, .int .u8 0, .int .u8 0, .int .u8 0, .int .u8 0, .int .u8 0, .int .u8 0, .int .u8 0] 33) := ⟨_, rfl⟩
  have hz1 : (w.alloc (.cells (a.map (Value.int .u8)).toArray 33)).heap.size = P + 1 := by rw [hP]; simp
  have hz2 : ((w.alloc (.cells (a.map (Value.int .u8)).toArray 33)).alloc (.cells (b.map (Value.int .u8)).toArray 33)).heap.size = P + 1 + 1 := by rw [hP]; simp
  have hra : NRow W1 .u8 P 33 a := by rw [hW1, hP]; exact ((NRow.new w .u8 33 a).alloc _).alloc _
  have hrb : NRow W1 .u8 (P + 1) 33 b := by rw [hW1, ← hz1]; exact (NRow.new _ .u8 33 b).alloc _
  have hrz : NRow W1 .u8 (P + 1 + 1) 33 (List.replicate 32 0) := by rw [hW1, ← hz2]; exact World.alloc_heap_new _ _
  have hb1 : Below P w W1 := by rw [hW1, hP]; exact (((Below.refl _ _).alloc (Nat.le_refl _) _).alloc (by simp) _).alloc (by simp; omega) _
  have hsz : W1.heap.size = P + 1 + 1 + 1 := by rw [hW1]; simp [hP]
  have HG := Lib.hid hg
  have HB1 := Lib.hid hb1
  have HRA := Lib.hid hra
  have HRB := Lib.hid hrb
  have HRZ := Lib.hid hrz
  have HP := Lib.hid hP
  have HW1 := Lib.hid hW1
  have HSZ := Lib.hid hsz
  have hXb : Below W1.heap.size W1 (((W1.alloc (.cells #[.int .u8 1] 5)).alloc (.cells #[.slice (some ⟨W1.heap.size, 0, none⟩) 1 1, .slice (some ⟨P, 0, none⟩) 32 32, .slice (some ⟨P + 1, 0, none⟩) 32 32] 53)).drew) :=
    (((Below.refl _ _).alloc (Nat.le_refl _) _).alloc (by simp) _).drew
  have hXs : (W1.alloc (.cells #[.int .u8 1] 5)).heap.size = W1.heap.size + 1 := by simp
  have hXc : ∀ k, (((W1.alloc (.cells #[.int .u8 1] 5)).alloc (.cells #[.slice (some ⟨W1.heap.size, 0, none⟩) 1 1, .slice (some ⟨P, 0, none⟩) 32 32, .slice (some ⟨P + 1, 0, none⟩) 32 32] 53)).drew).cell? ⟨W1.heap.size + 1, k, none⟩ = #[Value.slice (some ⟨W1.heap.size, 0, none⟩) 1 1, .slice (some ⟨P, 0, none⟩) 32 32, .slice (some ⟨P + 1, 0, none⟩) 32 32][k]? := fun k => by
    refine cell_of_row _ _ _ _ 53 (0, 0) ?_
    rw [← hXs]
    exact World.alloc_heap_new _ _
  have hX1 : IsBts (((W1.alloc (.cells #[.int .u8 1] 5)).alloc (.cells #[.slice (some ⟨W1.heap.size, 0, none⟩) 1 1, .slice (some ⟨P, 0, none⟩) 32 32, .slice (some ⟨P + 1, 0, none⟩) 32 32] 53)).drew) (.slice (some ⟨W1.heap.size, 0, none⟩) 1 1) [1] :=
    Rd.below (Rd.lit W1 #[.int .u8 1] 5 1 1 rfl (by unfold maxLen; omega)) (((Below.refl _ _).alloc (Nat.le_refl _) _).drew)
  obtain ⟨X2, hX2⟩ : ∃ X2, X2 = (((W1.alloc (.cells #[.int .u8 1] 5)).alloc (.cells #[.slice (some ⟨W1.heap.size, 0, none⟩) 1 1, .slice (some ⟨P, 0, none⟩) 32 32, .slice (some ⟨P + 1, 0, none⟩) 32 32] 53)).drew) := ⟨_, rfl⟩
  rw [← hX2] at hXb hX1
  simp only [← hX2] at hXc
  have hX0 : Below P w X2 := hb1.trans (hXb.mono (by omega))
  obtain ⟨T, hT⟩ : ∃ T, [1] ++ a ++ b = T := ⟨_, rfl⟩
  have hTl : T.length = 65 := by rw [← hT]; simp [ha, hb]
  have hFX : flatX [(.slice (some ⟨W1.heap.size, 0, none⟩) 1 1, [1]), (.slice (some ⟨P, 0, none⟩) 32 32, a), (.slice (some ⟨P + 1, 0, none⟩) 32 32, b)] = T := by rw [← hT]; simp [flatX]
  have hcc := concatB [(.slice (some ⟨W1.heap.size, 0, none⟩) 1 1, [1]), (.slice (some ⟨P, 0, none⟩) 32 32, a), (.slice (some ⟨P + 1, 0, none⟩) 32 32, b)] (W1.heap.size + 1) X2 (by simp)
    (fun k hk => by
      rw [hXc]
      rcases k with _ | _ | _ | k
      · rfl
      · rfl
      · rfl
      · simp at hk; omega)
    (fun k hk => by
      rcases k with _ | _ | _ | k
      · exact hX1
      · exact (IsBts.row hra ha (by omega)).below hXb
      · exact (IsBts.row hrb hb (by omega)).below hXb
      · simp at hk; omega)
    (by rw [hFX, hTl]; omega) (by rw [hFX, hTl]; omega)
  rw [hFX] at hcc
  have HCC : Hid (Calls Tryd.prog 57 #[.slice (some ⟨W1.heap.size + 1, 0, none⟩) 3 3] X2 fun e w' => (∃ v, e = .returned v ∧ IsBts w' v T) ∧ Below X2.heap.size X2 w') := hcc
  have hX0s : P ≤ X2.heap.size := by have := hXb.size; omega
  have HBX : Hid (∀ w7, Below X2.heap.size X2 w7 → Below P w w7) := fun w7 h => hX0.trans (h.mono hX0s)
  have HSF : Hid (∀ v7 w7, IsBts w7 v7 T → Below X2.heap.size X2 w7 → Calls Tryd.prog 31 #[v7] w7 fun e w' => e = .returned (.agg (RES.map (Value.int .u8)).toArray) ∧ Below w7.heap.size w7 w') := fun v7 w7 h1 h2 => by
    have h := dgSum KS T v7 w7 hk h1 (range_below hg (HBX.out w7 h2) (by omega)) (by omega)
    rw [show sumF KS T = RES by rw [← hRES, ← hT]; rfl] at h
    exact h
  have hz2' : P + 1 + 1 < X2.heap.size := by have := hXb.size; omega
  have HZF : Hid (∀ w7 w8, Below X2.heap.size X2 w7 → Below w7.heap.size w7 w8 → NRow w8 .u8 (P + 1 + 1) 33 (List.replicate 32 0)) := fun w7 w8 h1 h2 =>
    ((hrz.below hXb (by omega)).below h1 hz2').below h2 (by have := h1.size; omega)
  have HB8 : Hid (∀ w7 w8, Below X2.heap.size X2 w7 → Below w7.heap.size w7 w8 → Below w.heap.size w (w8.setRow (P + 1 + 1) (RES.map (Value.int .u8)).toArray)) := fun w7 w8 h1 h2 => by
    rw [← hP]
    exact ((HBX.out w7 h1).trans (h2.mono (by have := h1.size; omega))).trans ⟨rfl, rfl, rfl, by simp, fun k hk => setRow_other w8 (P + 1 + 1) k _ (by omega)⟩
  have HST : Hid (∀ w7 w8, Below X2.heap.size X2 w7 → Below w7.heap.size w7 w8 → (storeCells ⟨P + 1 + 1, 0, none⟩ (RES.map (Value.int .u8))).run Tryd.prog w8 = .ok () (w8.setRow (P + 1 + 1) (RES.map (Value.int .u8)).toArray)) := fun w7 w8 h1 h2 => by
    have h := run_storeCells_from (P := Tryd.prog) (P + 1 + 1) 33 (RES.map (Value.int .u8)) 0 _ w8 (HZF.out w7 w8 h1 h2) (by simp [hRl]) (by intro v hv; obtain ⟨x, _, rfl⟩ := List.mem_map.1 hv; rfl)
    simpa using h
  have HX2 := Lib.hid hX2
  clear hRES hW1 hra hrb hrz hb1 hg hP hz1 hz2 hsz hXb hXs hXc hX1 hX2 hX0 hT hFX hcc HRA HRB HRZ HBX HSZ HG HB1 HRES
  go_enter Tryd.func33, Tryd.ntmps33
  go_wp2_with fail
  rw [← HW1.out, ← HP.out]
  clear HW1
  go_region_law
    (first
      | (go_simp
         go_at_call 57
         rw [← HX2.out]
         refine HCC.out.mono ?_
         rintro e w7 ⟨⟨v7, rfl, hv7⟩, b7⟩
         have HV7 := Lib.hid hv7
         have HB7 := Lib.hid b7
         have HSM := Lib.hid (HSF.out v7 w7 hv7 b7)
         clear hv7 b7)
      | (go_simp
         go_at_call 31
         refine HSM.out.mono ?_
         rintro e w8 ⟨rfl, b8⟩
         have HZ8 := Lib.hid (HZF.out w7 w8 HB7.out b8)
         have HBF := Lib.hid (HB8.out w7 w8 HB7.out b8)
         have hst := HST.out w7 w8 HB7.out b8
         clear b8))
  all_goals
    go_wp2_with fail
    refine bodyPost_ret (results_cell_row rfl _ _ (P + 1 + 1) 33 (RES.map (Value.int .u8)).toArray (0, 0) _ rfl HZ8.out.store Tryd.underlying33 rfl (by rw [info32]; simp [hRl])) rfl ?_
    exact ⟨rfl, HBF.out⟩

end Go.Proofs.YtgfnelpfoegdaaaDoor
