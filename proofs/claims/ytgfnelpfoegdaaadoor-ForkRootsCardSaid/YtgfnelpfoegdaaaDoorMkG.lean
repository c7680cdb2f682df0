/-
  merkle.grow. (Printed by wip/tools/gen_mkg.py.)
-/
import Derived.Test.YtgfnelpfoegdaaaDoorMkBC
import Derived.Test.YtgfnelpfoegdaaaDoorMkS
namespace Go.Proofs.YtgfnelpfoegdaaaDoor
open Go.RowKit

def growF (KS : List Int) (m : Nat) (hs : List (List Int)) (b : Bool) : List (List Int) := mkGrow (nodeF KS) (sumF KS []) m hs b

theorem growF_len (KS : List Int) : ∀ (n m : Nat) (hs : List (List Int)) (b : Bool), hs.length ≤ n → 1 ≤ m → m ≤ hs.length → (growF KS m hs b).length ≤ hs.length
  | 0, m, hs, b, hn, h1, hm => by omega
  | n + 1, m, hs, b, hn, h1, hm => by
    unfold growF
    by_cases hme : m = hs.length
    · subst hme
      cases b
      · rw [mkGrow_own]; simpa using h1
      · rw [mkGrow_all]; simp
    · have h2 : 2 ≤ hs.length := by omega
      have hk1 := sp2_lt h2
      have hk0 := sp2_pos hs.length
      by_cases hk : m ≤ sp2 hs.length
      · rw [mkGrow_left (by omega) h2 hk]
        have h := growF_len KS n m (hs.take (sp2 hs.length)) b (by rw [List.length_take]; omega) h1 (by rw [List.length_take]; omega)
        unfold growF at h
        rw [List.length_take] at h
        rw [List.length_append, List.length_singleton]; omega
      · rw [mkGrow_right (by omega) h2 hk]
        have h := growF_len KS n (m - sp2 hs.length) (hs.drop (sp2 hs.length)) false (by rw [List.length_drop]; omega) (by omega) (by rw [List.length_drop]; omega)
        unfold growF at h
        rw [List.length_drop] at h
        rw [List.length_append, List.length_singleton]; omega

theorem hash_lit (w : World) (x : List Int) (h : x.length = 32) : IsHs (w.alloc (.cells (x.map (Value.int .u8)).toArray 33)) (.slice (some ⟨w.heap.size, 0, none⟩) 1 1) [x] := by
  refine ⟨?_, fun y hy => by obtain rfl := List.mem_singleton.1 hy; exact h⟩
  have h1 := Rd.lit w (x.map (Value.int .u8)).toArray 33 32 1 (by simp [h]) (by unfold maxLen; omega)
  simpa [bts] using h1

theorem infoHash : ∃ i z, Tryd.prog.info? 33 = some i ∧ i.zero = some z ∧ i.size = 32 := by
  have h9 : (Tryd.prog.info? 33).map (fun i => (i.zero.isSome, i.size)) = some (true, 32) := by kernel_rfl
  cases hq : Tryd.prog.info? 33 with
  | none => rw [hq] at h9; cases h9
  | some i =>
    rw [hq] at h9
    simp only [Option.map_some, Option.some.injEq, Prod.mk.injEq] at h9
    obtain ⟨z, hz⟩ := Option.isSome_iff_exists.1 h9.1
    exact ⟨i, z, rfl, hz, h9.2⟩

/-- All leaves. -/
theorem mkGrowAll (KS : List Int) (hk : KS.length = 64) (hs : List (List Int)) (b : Bool) (v : Value) (w : World) (hv : IsHs w v hs) (hg : w.rangeAt 0 0 (KS.map (Value.int .u32))) (hl : hs.length ≤ 65536) :
    Calls Tryd.prog 34 #[.int .i64 hs.length, v, .bool b] w fun e w' => ∃ v', e = .returned v' ∧ IsHs w' v' (growF KS hs.length hs b) ∧ Below w.heap.size w w' := by
  obtain ⟨a, cap, rfl, hcap, hao⟩ := hv.open
  cases b
  · have hr := mkRootC KS hk _ hs _ w (Nat.le_refl _) hv hg hl
    unfold growF
    rw [mkGrow_own]
    change Calls _ _ _ _ fun e w' => ∃ v', e = .returned v' ∧ IsHs w' v' [mrootF KS hs] ∧ Below w.heap.size w w'
    have hRl := mrootF_len (KS := KS) hv.2
    obtain ⟨RES, hRES⟩ : ∃ R, mrootF KS hs = R := ⟨_, rfl⟩
    rw [hRES] at hr hRl ⊢
    obtain ⟨L, hL⟩ : ∃ L, hs.length = L := ⟨_, rfl⟩
    rw [hL] at hr ⊢
    obtain ⟨i, z, hi, hz, hsz⟩ := infoHash
    have HR := Lib.hid hr
    have HSZ := Lib.hid hsz
    clear hr hv hg hl hL hRES hcap hao hsz
    go_enter Tryd.func34, Tryd.ntmps34
    go_wp2_with
      (first
        | (go_at_call 9
           refine HR.out.mono ?_
           rintro e w2 ⟨rfl, b2⟩
           have HB2 := Lib.hid b2
           clear b2)
        | (refine wpList_buildSlice_one rfl 29 _ rfl (RES.map (Value.int .u8)).toArray rfl 33 i z Tryd.underlying29 hi hz (by rw [HSZ.out]; simp [hRl]) (by simp [hRl]) (by simp [hRl]) ?_)
        | (go_at_call 58
           refine (mkWith [] [RES] _ _ _ (IsHs.nil _ none 0) (hash_lit w2 RES hRl) (by simp) (by simp)).mono ?_
           rintro e w3 ⟨v3, rfl, h3, b3⟩))
    go_ret
    exact ⟨_, rfl, h3, Below.to HB2.out (Below.to ((Below.refl _ _).alloc (Nat.le_refl _) _) b3 (by simp)) HB2.out.size⟩
  · unfold growF
    rw [mkGrow_all]
    obtain ⟨L, hL⟩ : ∃ L, hs.length = L := ⟨_, rfl⟩
    rw [hL]
    clear hv hg hl hL hao
    go_enter Tryd.func34, Tryd.ntmps34
    go_wp2_with fail
    go_ret
    exact ⟨_, rfl, IsHs.nil _ none 0, Below.refl _ _⟩

end Go.Proofs.YtgfnelpfoegdaaaDoor
