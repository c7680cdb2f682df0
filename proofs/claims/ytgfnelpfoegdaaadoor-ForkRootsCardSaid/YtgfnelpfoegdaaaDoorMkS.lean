/-
  merkle.Root at two leaves and more. (Printed by wip/tools/gen_dgd.py.)
-/
import Derived.Test.YtgfnelpfoegdaaaDoorMkMR
namespace Go.Proofs.YtgfnelpfoegdaaaDoor
open Go.RowKit

set_option maxHeartbeats 2000000 in
set_option maxRecDepth 100000 in
theorem mkRootC (KS : List Int) (hk : KS.length = 64) : ∀ (n : Nat) (hs : List (List Int)) (v : Value) (w : World), hs.length ≤ n → IsHs w v hs → w.rangeAt 0 0 (KS.map (Value.int .u32)) → hs.length ≤ 65536 →
    Calls Tryd.prog 9 #[v] w fun e w' => e = .returned (.agg ((mrootF KS hs).map (Value.int .u8)).toArray) ∧ Below w.heap.size w w' := by
  intro n
  induction n with
  | zero => exact fun hs v w hn hv hg hl => mkRootC1 KS hk hs v w (by omega) hv hg
  | succ n ih =>
    intro hs v w hn hv hg hl
    rcases Nat.lt_or_ge hs.length 2 with h2 | h2
    · exact mkRootC1 KS hk hs v w h2 hv hg
    have hP0 : 0 < w.heap.size := by have h9 := hg 0 (.int .u32 KS[0]) (by simp [hk]); exact World.block_lt_of_cell? w _ h9
    obtain ⟨a, cap, rfl, hcap, hao⟩ := hv.open
    obtain ⟨b, o, rfl⟩ := hao (by omega)
    obtain ⟨L, hL⟩ : ∃ L, hs.length = L := ⟨_, rfl⟩
    rw [hL] at hv hcap h2 hl hn ⊢
    obtain ⟨K, hK⟩ : ∃ K, sp2 L = K := ⟨_, rfl⟩
    have hK1 : K < L := by rw [← hK]; exact sp2_lt h2
    have hK0 : 1 ≤ K := by rw [← hK]; exact sp2_pos _
    have hsp := mkSplit L
    rw [hK] at hsp
    obtain ⟨A, hA⟩ : ∃ A, mrootF KS (hs.take K) = A := ⟨_, rfl⟩
    obtain ⟨B, hB⟩ : ∃ B, mrootF KS (hs.drop K) = B := ⟨_, rfl⟩
    have hA32 : A.length = 32 := by rw [← hA]; exact mrootF_len (hv.2.take K)
    have hB32 : B.length = 32 := by rw [← hB]; exact mrootF_len (hv.2.drop K)
    obtain ⟨RES, hRES⟩ : ∃ R, mrootF KS hs = R := ⟨_, rfl⟩
    have hnode : nodeF KS A B = RES := by
      rw [← hRES, ← hA, ← hB]
      unfold mrootF
      rw [mkRoot_big (l := hs) (by omega), hL, hK]
    have hRl : RES.length = 32 := by rw [← hnode]; exact nodeF_len _ _ _
    rw [hRES]
    obtain ⟨P, hP⟩ : ∃ P, P = w.heap.size := ⟨_, rfl⟩
    obtain ⟨W1, hW1⟩ : ∃ W1, W1 = w.alloc (.cells #[.int .u8 0, .int .u8 0, .int .u8 0, .int .u8 0, .int .u8 0, .int .u8 0, .int .u8 0, .int .u8 0, .int .u8 0, .int .u8 0, .int .u8 0, .int .u8 0, .int .u8 0, .int .u8 0, .int .u8 0, .int .u8 0, .int .u8 0, .int .u8 0, .int .u8 0, .int .u8 0, .int .u8 0, .int .u8 0, .int .u8 0, .int .u8 0, .int .u8 0, .int .u8 0, .int .u8 0, .int .u8 0, .int .u8 0, .int .u8 0, .int .u8 0, .int .u8 0] 33) := ⟨_, rfl⟩
    have hz1 : NRow W1 .u8 P 33 (List.replicate 32 0) := by rw [hW1, hP]; exact World.alloc_heap_new _ _
    have hb1 : Below P w W1 := by rw [hW1, hP]; exact (Below.refl _ _).alloc (Nat.le_refl _) _
    have HSP : Hid (∀ w7, Calls Tryd.prog 32 #[.int .i64 L] w7 fun e w' => e = .returned (.int .i64 K) ∧ w' = w7) := fun w7 => hsp w7 h2 hl
    have HR1 : Hid (∀ w7, Below P w w7 → Calls Tryd.prog 9 #[.slice (some ⟨b, o, none⟩) K cap] w7 fun e w' => e = .returned (.agg (A.map (Value.int .u8)).toArray) ∧ Below w7.heap.size w7 w') := fun w7 h7 => by
      have h := ih (hs.take K) _ w7 (by rw [List.length_take]; omega) ((hv.take (by omega)).below (by rw [← hP]; exact h7)) (range_below hg h7 (by omega)) (by rw [List.length_take]; omega)
      rwa [hA] at h
    have HR2 : Hid (∀ w7, Below P w w7 → Calls Tryd.prog 9 #[.slice (some ⟨b, o + K * 32, none⟩) (L - K) (cap - K)] w7 fun e w' => e = .returned (.agg (B.map (Value.int .u8)).toArray) ∧ Below w7.heap.size w7 w') := fun w7 h7 => by
      have hd := hv.drop (k := K) (by omega)
      rw [hL] at hd
      have h := ih (hs.drop K) _ w7 (by rw [List.length_drop]; omega) (hd.below (by rw [← hP]; exact h7)) (range_below hg h7 (by omega)) (by rw [List.length_drop]; omega)
      rwa [hB] at h
    have HND : Hid (∀ w7, Below P w w7 → Calls Tryd.prog 33 #[.agg (A.map (Value.int .u8)).toArray, .agg (B.map (Value.int .u8)).toArray] w7 fun e w' => e = .returned (.agg (RES.map (Value.int .u8)).toArray) ∧ Below w7.heap.size w7 w') := fun w7 h7 => by
      have h := dgNode KS A B w7 hk hA32 hB32 (range_below hg h7 (by omega))
      rwa [hnode] at h
    have HZ1 := Lib.hid hz1
    have HB1 := Lib.hid hb1
    have HP := Lib.hid hP
    have HW1 := Lib.hid hW1
    have hcK : cap ≠ K := by omega
    have hcK2 : ¬ cap = K := hcK
    have hKc : K ≤ cap := by omega
    have hKL : K ≤ L := by omega
    have hm1 := hv.len_le
    have hm2 := hv.1.2.2
    clear ih hv hg hsp hL hK hA hB hA32 hB32 hRES hnode hP hW1 hz1 hb1 hao hm1 hm2
    go_enter Tryd.func9, Tryd.ntmps9
    go_wp2_with
      (first
        | (go_at_call 32
           refine (HSP.out _).mono ?_
           rintro e w7 ⟨rfl, rfl⟩))
    rw [← HW1.out, ← HP.out]
    clear HW1
    go_region_law
      (first
        | (go_simp
           go_at_call 9
           refine (HR2.out _ HB7.out).mono ?_
           rintro e w8 ⟨rfl, b8⟩
           have HZ8 := Lib.hid (HZ7.out.below b8 HZ7.out.lt)
           have HB8 := Lib.hid (HB7.out.trans (b8.mono (Nat.le_of_lt HZ7.out.lt)))
           clear b8)
        | (go_simp
           go_at_call 9
           refine (HR1.out _ HB1.out.drew).mono ?_
           rintro e w7 ⟨rfl, b7⟩
           have HZ7 := Lib.hid (HZ1.out.drew.below b7 HZ1.out.drew.lt)
           have HB7 := Lib.hid (HB1.out.drew.trans (b7.mono (Nat.le_of_lt HZ1.out.drew.lt)))
           clear b7)
        | (go_simp
           go_at_call 33
           refine (HND.out _ HB8.out).mono ?_
           rintro e w9 ⟨rfl, b9⟩
           have HZ9 := Lib.hid (HZ8.out.below b9 HZ8.out.lt)
           have HBF := Lib.hid (below_setRow (HB8.out.trans (b9.mono (Nat.le_of_lt HZ8.out.lt))) P (RES.map (Value.int .u8)).toArray (Nat.le_refl _))
           have hst := HZ9.out.stored (ys := RES) (by simp [hRl])
           clear b9))
    all_goals
      go_wp2_with fail
      refine bodyPost_ret (results_cell_row rfl _ _ P 33 (RES.map (Value.int .u8)).toArray (0, 0) _ rfl HZ9.out.store Tryd.underlying33 rfl (by rw [info32]; simp [hRl])) rfl ?_
      rw [← HP.out]
      exact ⟨rfl, HBF.out⟩

end Go.Proofs.YtgfnelpfoegdaaaDoor
