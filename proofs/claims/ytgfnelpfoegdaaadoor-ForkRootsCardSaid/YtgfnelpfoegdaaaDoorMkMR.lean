/-
  What the walks of package merkle say of memory: slices of hashes (32 bytes each).
  merkle.Root. (Printed by wip/tools/gen_dgd.py.)
-/
import Derived.Test.YtgfnelpfoegdaaaDoorMkA
import Derived.Test.YtgfnelpfoegdaaaDoorDgH
namespace Go.Proofs.YtgfnelpfoegdaaaDoor
open Go.RowKit

def All32 (hs : List (List Int)) : Prop := ∀ h ∈ hs, h.length = 32
/-- v is a slice of the hashes hs. -/
def IsHs (w : World) (v : Value) (hs : List (List Int)) : Prop := Rd w v 32 hs.length (bts hs.flatten) ∧ All32 hs

theorem all32_rows {hs : List (List Int)} (h : All32 hs) : ∀ r ∈ hs.map bts, r.length = 32 := by
  intro r hr
  obtain ⟨x, hx, rfl⟩ := List.mem_map.1 hr
  rw [bts_len]; exact h x hx
theorem bts_flat (hs : List (List Int)) : bts hs.flatten = (hs.map bts).flatten := by
  induction hs with
  | nil => rfl
  | cons x l ih => simp only [List.flatten_cons, List.map_cons, ← ih]; simp [bts]
theorem flat32 {hs : List (List Int)} (h : All32 hs) : (bts hs.flatten).length = hs.length * 32 := by
  rw [bts_flat, flat_len 32 _ (all32_rows h), List.length_map]
theorem All32.take {hs : List (List Int)} (h : All32 hs) (k : Nat) : All32 (hs.take k) := fun x hx => h x (List.mem_of_mem_take hx)
theorem All32.drop {hs : List (List Int)} (h : All32 hs) (k : Nat) : All32 (hs.drop k) := fun x hx => h x (List.mem_of_mem_drop hx)
theorem flat_at {hs : List (List Int)} (h : All32 hs) {i j : Nat} (hi : i < hs.length) (hj : j < 32) : (bts hs.flatten)[i * 32 + j]? = (bts hs[i])[j]? := by
  rw [bts_flat, flat_get 32 _ i j (by rw [List.length_map]; exact hi) (all32_rows h) hj, List.getElem_map]

theorem IsHs.below {w w' : World} {v : Value} {hs : List (List Int)} (h : IsHs w v hs) (hb : Below w.heap.size w w') : IsHs w' v hs := ⟨h.1.below hb, h.2⟩
theorem IsHs.nil (w : World) (a : Option Addr) (cap : Nat) : IsHs w (.slice a 0 cap) [] := ⟨Rd.nil w a 32 cap, fun _ h => by cases h⟩
theorem IsHs.open {w : World} {v : Value} {hs : List (List Int)} (h : IsHs w v hs) :
    ∃ a cap, v = .slice a hs.length cap ∧ hs.length ≤ cap ∧ (0 < hs.length → ∃ b o, a = some ⟨b, o, none⟩) := by
  obtain ⟨⟨h1, h2, a, cap, e, hn, hc⟩, h32⟩ := h
  refine ⟨a, cap, e, hn, fun hp => ?_⟩
  obtain ⟨u, hu⟩ : ∃ u, (bts hs.flatten)[0]? = some u := ⟨_, List.getElem?_eq_getElem (by rw [h1]; omega)⟩
  obtain ⟨b, o, hb, _⟩ := hc 0 u hu
  exact ⟨b, o, hb⟩
theorem IsHs.len_le {w : World} {v : Value} {hs : List (List Int)} (h : IsHs w v hs) : hs.length ≤ maxLen := h.1.2.1
theorem IsHs.at_ {w : World} {b o n cap : Nat} {hs : List (List Int)} (h : IsHs w (.slice (some ⟨b, o, none⟩) n cap) hs) {i : Nat} (hi : i < hs.length) : w.rangeAt b (o + i * 32) (bts hs[i]) := by
  obtain ⟨⟨h1, h2, a, cap', e, hn, hc⟩, h32⟩ := h
  simp only [Value.slice.injEq] at e
  obtain ⟨rfl, -, -⟩ := e
  intro j v hv
  have hj : j < 32 := by
    have := (List.getElem?_eq_some_iff.1 hv).1
    rwa [bts_len, h32 _ (List.getElem_mem hi)] at this
  obtain ⟨b', o', hb, hcell⟩ := hc (i * 32 + j) v (by rw [flat_at h32 hi hj]; exact hv)
  simp only [Option.some.injEq, Addr.mk.injEq, and_true] at hb
  obtain ⟨rfl, rfl⟩ := hb
  rwa [Nat.add_assoc]
theorem IsHs.take {w : World} {a : Option Addr} {n cap : Nat} {hs : List (List Int)} (h : IsHs w (.slice a n cap) hs) {k : Nat} (hk : k ≤ hs.length) : IsHs w (.slice a k cap) (hs.take k) := by
  obtain ⟨⟨h1, h2, a', cap', e, hn, hc⟩, h32⟩ := h
  simp only [Value.slice.injEq] at e
  obtain ⟨rfl, -, rfl⟩ := e
  have hl : (hs.take k).length = k := by rw [List.length_take]; omega
  refine ⟨⟨flat32 (h32.take k), by omega, a, cap, by rw [hl], by omega, fun j u hu => hc j u ?_⟩, h32.take k⟩
  have e1 : hs.flatten = (hs.take k).flatten ++ (hs.drop k).flatten := by rw [← List.flatten_append, List.take_append_drop]
  have hj := (List.getElem?_eq_some_iff.1 hu).1
  rw [e1, bts, List.map_append, List.getElem?_append_left (by simpa [bts] using hj)]
  exact hu
theorem IsHs.drop {w : World} {b o n cap : Nat} {hs : List (List Int)} (h : IsHs w (.slice (some ⟨b, o, none⟩) n cap) hs) {k : Nat} (hk : k ≤ hs.length) : IsHs w (.slice (some ⟨b, o + k * 32, none⟩) (hs.length - k) (cap - k)) (hs.drop k) := by
  obtain ⟨⟨h1, h2, a', cap', e, hn, hc⟩, h32⟩ := h
  simp only [Value.slice.injEq] at e
  obtain ⟨rfl, -, rfl⟩ := e
  have hl : (hs.drop k).length = hs.length - k := by rw [List.length_drop]
  refine ⟨⟨flat32 (h32.drop k), by omega, _, _, by rw [hl], by omega, fun j u hu => ⟨b, o + k * 32, rfl, ?_⟩⟩, h32.drop k⟩
  have e1 : hs.flatten = (hs.take k).flatten ++ (hs.drop k).flatten := by rw [← List.flatten_append, List.take_append_drop]
  have e2 := flat32 (h32.take k)
  rw [List.length_take, Nat.min_eq_left hk] at e2
  obtain ⟨b', o', hb, hcell⟩ := hc (k * 32 + j) u (by
    rw [e1, bts, List.map_append, List.getElem?_append_right (by have : (List.map (Value.int .u8) (hs.take k).flatten).length = k * 32 := e2; omega)]
    rw [show k * 32 + j - (List.map (Value.int .u8) (hs.take k).flatten).length = j by have : (List.map (Value.int .u8) (hs.take k).flatten).length = k * 32 := e2; omega]
    exact hu)
  simp only [Option.some.injEq, Addr.mk.injEq, and_true] at hb
  obtain ⟨rfl, rfl⟩ := hb
  rwa [Nat.add_assoc]

/-- A whole array is written into a row of numbers. -/
theorem NRow.stored {w : World} {g t : Nat} {xs ys : List Int} (h : NRow w .u8 g t xs) (hl : ys.length = xs.length) :
    (storeCells ⟨g, 0, none⟩ (ys.map (Value.int .u8))).run Tryd.prog w = .ok () (w.setRow g (ys.map (Value.int .u8)).toArray) := by
  have h := run_storeCells_from (P := Tryd.prog) g t (ys.map (Value.int .u8)) 0 _ w h (by simp [hl]) (by intro v hv; obtain ⟨x, _, rfl⟩ := List.mem_map.1 hv; rfl)
  simpa using h
theorem below_setRow {B : Nat} {w w' : World} (h : Below B w w') (g : Nat) (cs : Array Value) (hg : B ≤ g) : Below B w (w'.setRow g cs) :=
  h.trans ⟨rfl, rfl, rfl, by simp, fun k hk => setRow_other w' g k _ (by omega)⟩

end Go.Proofs.YtgfnelpfoegdaaaDoor

namespace Go.Proofs.YtgfnelpfoegdaaaDoor
open Go.RowKit

def mrootF (KS : List Int) (hs : List (List Int)) : List Int := mkRoot (nodeF KS) (sumF KS []) hs
theorem mkRoot_32 (KS : List Int) : ∀ (n : Nat) (hs : List (List Int)), hs.length ≤ n → All32 hs → (mrootF KS hs).length = 32
  | n, hs, hn, h => by
    rcases hs with _ | ⟨x, _ | ⟨y, l⟩⟩
    · unfold mrootF; rw [mkRoot_nil]; exact sumF_len _ _
    · unfold mrootF; rw [mkRoot_one]; exact h x (by simp)
    · unfold mrootF; rw [mkRoot_big (by simp)]; exact nodeF_len _ _ _
theorem mrootF_len {KS : List Int} {hs : List (List Int)} (h : All32 hs) : (mrootF KS hs).length = 32 := mkRoot_32 KS _ hs (Nat.le_refl _) h

set_option maxHeartbeats 1000000 in
set_option maxRecDepth 100000 in
theorem mkRootC1 (KS : List Int) (hk : KS.length = 64) (hs : List (List Int)) (v : Value) (w : World) (h2 : hs.length < 2) (hv : IsHs w v hs) (hg : w.rangeAt 0 0 (KS.map (Value.int .u32))) :
    Calls Tryd.prog 9 #[v] w fun e w' => e = .returned (.agg ((mrootF KS hs).map (Value.int .u8)).toArray) ∧ Below w.heap.size w w' := by
  have hP0 : 0 < w.heap.size := by have h9 := hg 0 (.int .u32 KS[0]) (by simp [hk]); exact World.block_lt_of_cell? w _ h9
  obtain ⟨a, cap, rfl, hcap, hao⟩ := hv.open
  obtain ⟨RES, hRES⟩ : ∃ R, mrootF KS hs = R := ⟨_, rfl⟩
  have hRl : RES.length = 32 := by rw [← hRES]; exact mrootF_len hv.2
  obtain ⟨P, hP⟩ : ∃ P, P = w.heap.size := ⟨_, rfl⟩
  obtain ⟨W1, hW1⟩ : ∃ W1, W1 = w.alloc (.cells #[.int .u8 0, .int .u8 0, .int .u8 0, .int .u8 0, .int .u8 0, .int .u8 0, .int .u8 0, .int .u8 0, .int .u8 0, .int .u8 0, .int .u8 0, .int .u8 0, .int .u8 0, .int .u8 0, .int .u8 0, .int .u8 0, .int .u8 0, .int .u8 0, .int .u8 0, .int .u8 0, .int .u8 0, .int .u8 0, .int .u8 0, .int .u8 0, .int .u8 0, .int .u8 0, .int .u8 0, .int .u8 0, .int .u8 0, .int .u8 0, .int .u8 0, .int .u8 0] 33) := ⟨_, rfl⟩
  have hz1 : NRow W1 .u8 P 33 (List.replicate 32 0) := by rw [hW1, hP]; exact World.alloc_heap_new _ _
  have hb1 : Below P w W1 := by rw [hW1, hP]; exact (Below.refl _ _).alloc (Nat.le_refl _) _
  have HZ1 := Lib.hid hz1
  have HB1 := Lib.hid hb1
  have HP := Lib.hid hP
  have HW1 := Lib.hid hW1
  rcases hs with _ | ⟨x, l⟩
  · have hsm := dgSum KS [] (.slice none 0 0) W1 hk (Rd.nil _ _ _ _) (range_below hg hb1 (by omega)) (by simp)
    rw [show sumF KS [] = RES by rw [← hRES]; unfold mrootF; rw [mkRoot_nil]] at hsm
    have HSM := Lib.hid hsm
    rw [hRES]
    clear hv hg hsm hRES hz1 hb1 hP hW1 hao
    go_enter Tryd.func9, Tryd.ntmps9
    go_wp2_with fail
    rw [← HW1.out, ← HP.out]
    refine HSM.out.mono ?_
    rintro e w2 ⟨rfl, b2⟩
    have HZ2 := Lib.hid (HZ1.out.below b2 HZ1.out.lt)
    have HBF := Lib.hid (below_setRow (HB1.out.trans (b2.mono (Nat.le_of_lt HZ1.out.lt))) P (RES.map (Value.int .u8)).toArray (Nat.le_refl _))
    clear b2
    go_wp2_with (refine wpList_store_row rfl 33 _ _ rfl P (RES.map (Value.int .u8)).toArray rfl rfl 33 _ HZ2.out (by rw [info32]; simp [hRl]) (by simp [hRl]) (u8_all _) ?_)
    refine bodyPost_ret (results_cell_row rfl _ _ P 33 (RES.map (Value.int .u8)).toArray (0, 0) _ rfl HZ2.out.store Tryd.underlying33 rfl (by rw [info32]; simp [hRl])) rfl ?_
    exact ⟨rfl, by rw [← HP.out]; exact HBF.out⟩
  · obtain rfl : l = [] := by cases l with | nil => rfl | cons y l => simp at h2; omega
    obtain ⟨b, o, rfl⟩ := hao (by simp)
    have hx : RES = x := by rw [← hRES]; unfold mrootF; rw [mkRoot_one]
    have hr : W1.rangeAt b o (RES.map (Value.int .u8)) := by
      have h := hv.at_ (i := 0) (by simp)
      rw [hx]
      have hlt : b < w.heap.size := by
        have h9 := h 0 (.int .u8 (x[0]'(by rw [← hx]; omega))) (by simp [bts])
        exact World.block_lt_of_cell? w _ h9
      have h7 := range_below h hb1 (by omega)
      rw [Nat.zero_mul, Nat.add_zero] at h7
      exact h7
    have HR := Lib.hid hr
    have HBF := Lib.hid (below_setRow hb1 P (RES.map (Value.int .u8)).toArray (Nat.le_refl _))
    rw [hRES]
    clear hv hg hRES hz1 hb1 hP hW1 hao hx hr
    go_enter Tryd.func9, Tryd.ntmps9
    go_wp2_with
      (first
        | (rw [← HW1.out, ← HP.out]; refine wpList_load_mid rfl 33 _ rfl b o rfl (RES.map (Value.int .u8)) _ HR.out Tryd.underlying33 rfl (by rw [info32]; simp [hRl]) ?_)
        | (refine wpList_store_row rfl 33 _ _ rfl P (RES.map (Value.int .u8)).toArray rfl rfl 33 _ HZ1.out (by rw [info32]; simp [hRl]) (by simp [hRl]) (u8_all _) ?_))
    refine bodyPost_ret (results_cell_row rfl _ _ P 33 (RES.map (Value.int .u8)).toArray (0, 0) _ rfl HZ1.out.store Tryd.underlying33 rfl (by rw [info32]; simp [hRl])) rfl ?_
    exact ⟨rfl, by rw [← HP.out]; exact HBF.out⟩

end Go.Proofs.YtgfnelpfoegdaaaDoor
