/-
  merkle.grow, the right part; grow and Growth whole. (Printed by wip/tools/gen_mkg.py.)
-/
import Derived.Test.YtgfnelpfoegdaaaDoorMkH
namespace Go.Proofs.YtgfnelpfoegdaaaDoor
open Go.RowKit
set_option linter.unusedSimpArgs false

set_option maxHeartbeats 2000000 in
set_option maxRecDepth 100000 in
theorem mkGrowR (KS : List Int) (hk : KS.length = 64) (m : Nat) (hs : List (List Int)) (bw : Bool) (v : Value) (w : World) (hv : IsHs w v hs) (hg : w.rangeAt 0 0 (KS.map (Value.int .u32))) (hl : hs.length ≤ 65536) (h2 : 2 ≤ hs.length) (h1 : 1 ≤ m) (hm : m < hs.length) (hmk : ¬ m ≤ sp2 hs.length)
    (ih : ∀ (v7 : Value) (w7 : World), IsHs w7 v7 (hs.drop (sp2 hs.length)) → w7.rangeAt 0 0 (KS.map (Value.int .u32)) → Calls Tryd.prog 34 #[.int .i64 ((m : Int) - (sp2 hs.length : Int)), v7, .bool false] w7 fun e w' => ∃ v', e = .returned v' ∧ IsHs w' v' (growF KS (m - sp2 hs.length) (hs.drop (sp2 hs.length)) false) ∧ Below w7.heap.size w7 w') :
    Calls Tryd.prog 34 #[.int .i64 m, v, .bool bw] w fun e w' => ∃ v', e = .returned v' ∧ IsHs w' v' (growF KS m hs bw) ∧ Below w.heap.size w w' := by
  have hP0 : 0 < w.heap.size := by have h9 := hg 0 (.int .u32 KS[0]) (by simp [hk]); exact World.block_lt_of_cell? w _ h9
  obtain ⟨a, cap, rfl, hcap, hao⟩ := hv.open
  obtain ⟨b, o, rfl⟩ := hao (by omega)
  obtain ⟨L, hL⟩ : ∃ L, hs.length = L := ⟨_, rfl⟩
  rw [hL] at hv hcap h2 hl hm hmk ih ⊢
  obtain ⟨K, hK⟩ : ∃ K, sp2 L = K := ⟨_, rfl⟩
  have hK1 : K < L := by rw [← hK]; exact sp2_lt h2
  have hK0 : 1 ≤ K := by rw [← hK]; exact sp2_pos _
  have hsp := mkSplit L
  rw [hK] at hsp hmk ih
  obtain ⟨G, hG⟩ : ∃ G, growF KS (m - K) (hs.drop K) false = G := ⟨_, rfl⟩
  obtain ⟨B, hB⟩ : ∃ B, mrootF KS (hs.take K) = B := ⟨_, rfl⟩
  have hB32 : B.length = 32 := by rw [← hB]; exact mrootF_len (hv.2.take K)
  have hGl : G.length ≤ 65536 := by
    rw [← hG]
    have h := growF_len KS _ (m - K) (hs.drop K) false (Nat.le_refl _) (by omega) (by simp only [List.length_take, List.length_drop]; omega)
    simp only [List.length_take, List.length_drop] at h
    omega
  have hres : growF KS m hs bw = G ++ [B] := by
    rw [← hG, ← hB]
    unfold growF mrootF
    rw [mkGrow_right (by omega) (by omega) (by rw [hL, hK]; exact hmk), hL, hK]
  rw [hres]
  rw [hG] at ih
  have HSP : Hid (∀ w7, Calls Tryd.prog 32 #[.int .i64 L] w7 fun e w' => e = .returned (.int .i64 K) ∧ w' = w7) := fun w7 => hsp w7 h2 hl
  obtain ⟨P, hP⟩ : ∃ P, P = w.heap.size := ⟨_, rfl⟩
  have hd := hv.drop (k := K) (by omega)
  rw [hL] at hd
  have ht := hv.take (k := K) (by omega)
  have HR1 : Hid (∀ w7, Below P w w7 → Calls Tryd.prog 34 #[.int .i64 ((m : Int) - (K : Int)), .slice (some ⟨b, o + K * 32, none⟩) (L - K) (cap - K), .bool false] w7 fun e w' => ∃ v', e = .returned v' ∧ IsHs w' v' G ∧ Below w7.heap.size w7 w') := fun w7 h7 =>
    ih _ w7 (hd.below (by rw [← hP]; exact h7)) (range_below hg h7 (by omega))
  have HR2 : Hid (∀ w7, Below P w w7 → Calls Tryd.prog 9 #[.slice (some ⟨b, o, none⟩) K cap] w7 fun e w' => e = .returned (.agg (B.map (Value.int .u8)).toArray) ∧ Below w7.heap.size w7 w') := fun w7 h7 => by
    have h := mkRootC KS hk _ (hs.take K) _ w7 (Nat.le_refl _) (ht.below (by rw [← hP]; exact h7)) (range_below hg h7 (by omega)) (by simp only [List.length_take, List.length_drop]; omega)
    rwa [hB] at h
  have HWT : Hid (∀ v7 w7 w8, Below P w w7 → IsHs w7 v7 G → Below w7.heap.size w7 w8 → Calls Tryd.prog 58 #[v7, .slice (some ⟨w8.heap.size, 0, none⟩) 1 1] (w8.alloc (.cells (B.map (Value.int .u8)).toArray 33)) fun e w' => ∃ v', e = .returned v' ∧ IsHs w' v' (G ++ [B]) ∧ Below P w w') := fun v7 w7 w8 h7 hG7 h8 =>
    (mkWith G [B] v7 _ _ ((hG7.below h8).below ((Below.refl _ _).alloc (Nat.le_refl _) _)) (hash_lit w8 B hB32) (by simp) (by simp; omega)).mono fun e w' h => by
      obtain ⟨v', h1, h2, h3⟩ := h
      refine ⟨v', h1, h2, ?_⟩
      have h9 : Below P w w8 := Below.to h7 h8 (by have := h7.size; omega)
      exact Below.to (Below.to h9 ((Below.refl _ _).alloc (Nat.le_refl _) _) (by have := h9.size; omega)) h3 (by have := h9.size; simp; omega)
  have HB0 : Hid (Below P w w.drew) := (Below.refl _ _).drew
  have HS0 : Hid (P ≤ w.drew.heap.size) := Nat.le_of_eq hP
  have HP := Lib.hid hP
  have hme : ¬ ((m : Int) = (L : Int)) := by omega
  have hcK2 : ¬ cap = K := by omega
  have hKc : K ≤ cap := by omega
  have hKL : K ≤ L := by omega
  have hmk2 : ¬ (m : Int) ≤ (K : Int) := by omega
  have hwr : IntKind.i64.wrap ((m : Int) - (K : Int)) = (m : Int) - (K : Int) := by rw [IntKind.wrap_i64]; omega
  have hm1 := hv.len_le
  have hm2 := hv.1.2.2
  clear hv hg hsp hL hK hG hB hres hP hao hm1 hm2 ih hd ht
  go_enter Tryd.func34, Tryd.ntmps34
  go_wp2_with
    (first
      | (go_at_call 32
         refine (HSP.out _).mono ?_
         rintro e w7 ⟨rfl, rfl⟩))
  go_region_law
    (first
      | (go_simp
         go_at_call 34
         refine (HR1.out _ HB0.out).mono ?_
         rintro e w7 ⟨v7, rfl, h7, b7⟩
         have HG7 := Lib.hid h7
         have HB7 := Lib.hid (Below.to HB0.out b7 HS0.out)
         have hb7 := Lib.hid b7
         clear h7 b7)
      | (go_simp
         go_at_call 9
         refine (HR2.out _ HB7.out).mono ?_
         rintro e w8 ⟨rfl, b8⟩
         have HWW := Lib.hid (HWT.out v7 w7 w8 HB7.out HG7.out b8)
         clear b8)
      | (go_simp
         go_at_call 58
         rw [fold_hash B hB32]
         refine HWW.out.mono ?_
         rintro e w9 ⟨v9, rfl, h9, b9⟩))
  all_goals
    go_wp2_with fail
    go_ret
    exact ⟨_, rfl, h9, by rw [← HP.out]; exact b9⟩

theorem mkGrowC (KS : List Int) (hk : KS.length = 64) : ∀ (n m : Nat) (hs : List (List Int)) (b : Bool) (v : Value) (w : World), hs.length ≤ n → IsHs w v hs → w.rangeAt 0 0 (KS.map (Value.int .u32)) → hs.length ≤ 65536 → 1 ≤ m → m ≤ hs.length →
    Calls Tryd.prog 34 #[.int .i64 m, v, .bool b] w fun e w' => ∃ v', e = .returned v' ∧ IsHs w' v' (growF KS m hs b) ∧ Below w.heap.size w w' := by
  intro n
  induction n with
  | zero => intro m hs b v w hn hv hg hl h1 hm; omega
  | succ n ih =>
    intro m hs b v w hn hv hg hl h1 hm
    by_cases he : m = hs.length
    · subst he
      exact mkGrowAll KS hk hs b v w hv hg hl
    have h2 : 2 ≤ hs.length := by omega
    have hk1 := sp2_lt h2
    have hk0 := sp2_pos hs.length
    by_cases hmk : m ≤ sp2 hs.length
    · exact mkGrowL KS hk m hs b v w hv hg hl h2 h1 (by omega) hmk fun v7 w7 h7 g7 =>
        ih m _ b v7 w7 (by rw [List.length_take]; omega) h7 g7 (by rw [List.length_take]; omega) h1 (by rw [List.length_take]; omega)
    · refine mkGrowR KS hk m hs b v w hv hg hl h2 h1 (by omega) hmk fun v7 w7 h7 g7 => ?_
      have h := ih (m - sp2 hs.length) _ false v7 w7 (by rw [List.length_drop]; omega) h7 g7 (by rw [List.length_drop]; omega) (by omega) (by rw [List.length_drop]; omega)
      rwa [show ((m - sp2 hs.length : Nat) : Int) = (m : Int) - (sp2 hs.length : Int) by omega] at h

def growthF (KS : List Int) (m : Nat) (hs : List (List Int)) : List (List Int) := if m = 0 then [] else growF KS m hs true

set_option maxHeartbeats 1000000 in
theorem mkGrowth (KS : List Int) (hk : KS.length = 64) (m : Nat) (hs : List (List Int)) (v : Value) (w : World) (hv : IsHs w v hs) (hg : w.rangeAt 0 0 (KS.map (Value.int .u32))) (hl : hs.length ≤ 65536) (hm : m ≤ hs.length) :
    Calls Tryd.prog 10 #[v, .int .i64 m] w fun e w' => ∃ v', e = .returned (.tuple #[v', .int .i64 0]) ∧ IsHs w' v' (growthF KS m hs) ∧ Below w.heap.size w w' := by
  have hgr := mkGrowC KS hk _ m hs true v w (Nat.le_refl _) hv hg hl
  obtain ⟨a, cap, rfl, hcap, hao⟩ := hv.open
  obtain ⟨L, hL⟩ : ∃ L, hs.length = L := ⟨_, rfl⟩
  rw [hL] at hgr hm ⊢
  by_cases h0 : m = 0
  · subst h0
    unfold growthF
    rw [if_pos rfl]
    clear hgr hv hg hl hL hao
    rw [show ((0 : Nat) : Int) = 0 from rfl]
    go_enter Tryd.func10, Tryd.ntmps10
    go_wp2_with fail
    go_ret2
    exact ⟨_, rfl, IsHs.nil _ none 0, Below.refl _ _⟩
  · unfold growthF
    rw [if_neg h0]
    have HG := Lib.hid (hgr (by omega) hm)
    have h1 : ¬ ((m : Int) = 0) := by omega
    have h2 : ¬ ((m : Int) < 0) := by omega
    have h3 : ¬ ((m : Int) > (L : Int)) := by omega
    have h4 : ¬ ((L : Int) < (m : Int)) := by omega
    clear hgr hv hg hl hL hao
    go_enter Tryd.func10, Tryd.ntmps10
    go_wp2_with
      (go_at_call 34
       refine HG.out.mono ?_
       rintro e w2 ⟨v2, rfl, h5, b5⟩)
    go_ret2
    exact ⟨_, rfl, h5, b5⟩

end Go.Proofs.YtgfnelpfoegdaaaDoor
