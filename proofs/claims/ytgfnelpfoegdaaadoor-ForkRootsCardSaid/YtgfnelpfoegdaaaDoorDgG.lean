/-
  slices.Grow, slices.Concat at bytes; digest.Node. (Printed by wip/tools/gen_dgd.py.)
-/
import Derived.Test.YtgfnelpfoegdaaaDoorDgF
namespace Go.Proofs.YtgfnelpfoegdaaaDoor
open Go.RowKit

theorem growB (n : Nat) (h0 : 0 < n) (hn : n ≤ 100000) (w : World) :
    Calls Tryd.prog 69 #[.slice none 0 0, .int .i64 n] w fun e w' => (∃ v, e = .returned v ∧ w'.ownsRow w.heap.size 5 1 v 0 []) ∧ Below w.heap.size w w' := by
  obtain ⟨i, hi, hz, hs, hb⟩ := info_parts infoB
  have hr := Lib.run_append_nil_zeros (P := Tryd.prog) w 53 3 53 5 i (.int .u8 0) .i64 .i64 Tryd.underlying53 Tryd.underlying3 hi hz n h0 (by omega) (by omega) (by rw [hb]; omega)
  have hge := grownCap_ge w n 0 5
  have hcm := grownCap_le_maxLen w n 0 5 (by unfold maxLen; omega)
  obtain ⟨C, hC⟩ : ∃ C, Builtin.zeroCells (Value.int .u8 0).cells n ++ Builtin.zeroCells (Value.int .u8 0).cells (grownCap w n 0 5 - n) = C := ⟨_, rfl⟩
  have hCl : C.size = grownCap w n 0 5 := by
    rw [← hC, Array.size_append, size_zeroCells, size_zeroCells]
    simp [Value.cells]
    omega
  rw [hC] at hr
  obtain ⟨cp, hcp⟩ : ∃ c, grownCap w n 0 5 = c := ⟨_, rfl⟩
  rw [hcp] at hr hge hcm hCl
  have HR := Lib.hid hr
  have HO : Hid ((w.drew.alloc (.cells C 5)).ownsRow w.heap.size 5 1 (.slice (some ⟨w.heap.size, 0, none⟩) 0 cp) 0 []) :=
    ⟨rfl, .inr ⟨w.heap.size, cp, C, rfl, Nat.le_refl _, World.alloc_heap_new w.drew _, Nat.zero_le _, hcm, by omega, by simp⟩⟩
  have HB : Hid (Below w.heap.size w (w.drew.alloc (.cells C 5))) := ((Below.refl _ _).drew).alloc (Nat.le_refl _) _
  have hnI : ¬ (n : Int) < 0 := by omega
  have hn0 : (0 : Int) < (n : Int) := by omega
  have hw0 : IntKind.i64.wrap (n : Int) = (n : Int) := by rw [IntKind.wrap_i64]; omega
  clear hr hcp hC
  go_enter Tryd.func69, Tryd.ntmps69
  go_wp2_with (at_builtin; refine Lib.wpList_append_run _ rfl _ _ 53 3 rfl _ _ rfl rfl (.slice (some ⟨w.heap.size, 0, none⟩) n cp) (w.drew.alloc (.cells C 5)) HR.out ?_)
  go_ret
  exact ⟨⟨_, rfl, HO.out⟩, HB.out⟩

def flatX (XS : List (Value × List Int)) : List Int := XS.flatMap (·.2)
theorem flatX_take {XS : List (Value × List Int)} {k : Nat} (hk : k < XS.length) : flatX (XS.take (k + 1)) = flatX (XS.take k) ++ XS[k].2 := by
  unfold flatX
  rw [List.take_succ_eq_append_getElem hk, List.flatMap_append]
  simp
theorem flatX_le {XS : List (Value × List Int)} (k : Nat) : (flatX (XS.take k)).length ≤ (flatX XS).length := by
  have h : flatX XS = flatX (XS.take k) ++ flatX (XS.drop k) := by
    unfold flatX
    rw [← List.flatMap_append, List.take_append_drop]
  rw [h, List.length_append]
  omega

set_option maxHeartbeats 1000000 in
set_option maxRecDepth 100000 in
theorem concatB (XS : List (Value × List Int)) (g : Nat) (w : World) (hl : XS.length ≤ 100) (hc : ∀ k (h : k < XS.length), w.cell? ⟨g, k, none⟩ = some XS[k].1) (hr : ∀ k (h : k < XS.length), IsBts w XS[k].1 XS[k].2) (h0 : 0 < (flatX XS).length) (hn : (flatX XS).length ≤ 100000) :
    Calls Tryd.prog 57 #[.slice (some ⟨g, 0, none⟩) XS.length XS.length] w fun e w' => (∃ v, e = .returned v ∧ IsBts w' v (flatX XS)) ∧ Below w.heap.size w w' := by
  have HC := Lib.hid hc
  have HR := Lib.hid hr
  obtain ⟨T, hT⟩ : ∃ T, flatX XS = T := ⟨_, rfl⟩
  have hle := fun k => flatX_le (XS := XS) k
  rw [hT] at h0 hn ⊢
  simp only [hT] at hle
  have HLE := Lib.hid hle
  have HT := Lib.hid hT
  clear hc hr hT hle
  go_enter Tryd.func57, Tryd.ntmps57
  go_wp2_with fail
  go_loopw [3, 11] (fun s i wr => ∃ k : Nat, s = .int .i64 ((flatX (XS.take k)).length : Nat) ∧ i = .int .i64 k ∧ k ≤ XS.length ∧ wr = w) (fun _ i _ => XS.length - (intOf i).toNat)
  case atStart => exact ⟨0, by simp [flatX], rfl, Nat.zero_le _, rfl⟩
  case round =>
    obtain ⟨k, rfl, rfl, hk, rfl⟩ := hrel
    have ek : IntKind.i64.wrap ((k : Int) + 1) = ((k + 1 : Nat) : Int) := by rw [IntKind.wrap_i64]; omega
    by_cases hkl : k < XS.length
    · have hkI : (k : Int) < (XS.length : Int) := by omega
      have c0 := HC.out k hkl
      obtain ⟨a, cp, hv, -, -, -⟩ := (HR.out k hkl).open
      rw [hv] at c0
      have hs := flatX_take hkl
      have h1 := HLE.out (k + 1)
      obtain ⟨s, hs1⟩ : ∃ s, (flatX (XS.take k)).length = s := ⟨_, rfl⟩
      obtain ⟨n, hn1⟩ : ∃ n, XS[k].2.length = n := ⟨_, rfl⟩
      have h2 : (flatX (XS.take (k + 1))).length = s + n := by rw [hs, List.length_append, hs1, hn1]
      have HS := Lib.hid h2
      rw [h2] at h1
      rw [hn1] at c0
      rw [hs1]
      have hw1 : IntKind.i64.wrap ((s : Int) + (n : Int)) = ((s + n : Nat) : Int) := by rw [IntKind.wrap_i64]; omega
      have hneg : ¬ ((s + n : Nat) : Int) < 0 := by omega
      have hneg2 : ¬ (s : Int) + (n : Int) < 0 := by omega
      clear hs hv hs1 hn1 h2
      go_wp2_with fail
      go_roundw
      case rel => exact ⟨k + 1, by rw [HS.out]; go_num, by go_num, by omega, trivial⟩
      case measure => simp [intOf]; omega
    · have hke : k = XS.length := by omega
      subst hke
      have hkI : ¬ (XS.length : Int) < (XS.length : Int) := by omega
      rw [List.take_length, HT.out]
      have HG := Lib.hid (growB T.length h0 hn wr)
      go_wp2_with fail
      refine HG.out.mono ?_
      rintro e w1 ⟨⟨v1, rfl, ho1⟩, b1⟩
      have HO1 := Lib.hid ho1
      have HB1 := Lib.hid b1
      obtain ⟨W9, rfl⟩ : ∃ W9 : World, W9 = wr := ⟨_, rfl⟩
      clear ho1 b1 HG
      go_wp2_with fail
      go_loopw [6, 27] (fun v i wr => ∃ (k : Nat) (u : Value), u = v ∧ i = .int .i64 k ∧ k ≤ XS.length ∧ Hid (wr.ownsRow W9.heap.size 5 1 u (flatX (XS.take k)).length (bts (flatX (XS.take k)))) ∧ Hid (Below W9.heap.size W9 wr)) (fun _ i _ => XS.length - (intOf i).toNat)
      case atStart => exact ⟨0, v1, rfl, rfl, Nat.zero_le _, by simpa [flatX, bts] using HO1, HB1⟩
      case round =>
        obtain ⟨k, u, rfl, rfl, hk, HO, HB⟩ := hrel
        have ek : IntKind.i64.wrap ((k : Int) + 1) = ((k + 1 : Nat) : Int) := by rw [IntKind.wrap_i64]; omega
        by_cases hkl : k < XS.length
        · have hkI : (k : Int) < (XS.length : Int) := by omega
          have hlt := World.block_lt_of_cell? _ _ (HC.out k hkl)
          have c0 := (HB.out.cell (p := ⟨g, k, none⟩) hlt).trans (HC.out k hkl)
          obtain ⟨a, cp, hv, -, -, -⟩ := (HR.out k hkl).open
          have hrd := (HR.out k hkl).below HB.out
          rw [hv] at c0 hrd
          have hs := flatX_take hkl
          have h1 := HLE.out (k + 1)
          have HS := Lib.hid hs
          rw [hs, List.length_append] at h1
          obtain ⟨E, hE⟩ : ∃ E, flatX (XS.take k) = E := ⟨_, rfl⟩
          obtain ⟨Y, hY⟩ : ∃ Y, XS[k].2 = Y := ⟨_, rfl⟩
          rw [hE, hY] at HS h1
          rw [hE] at HO
          rw [hY] at c0 hrd
          have HRD := Lib.hid hrd
          obtain ⟨a6, c6, rfl, -, -⟩ := owns_slice HO.out
          have hsz := HB.out.size
          have HN1 : Hid (E.length + Y.length ≤ maxLen) := (by show _ ≤ _; unfold maxLen; omega)
          clear hs hv hE hY hrd
          go_wp2_with (at_builtin; go_must (refine wpList_append_rd rfl _ _ 53 rfl W9.heap.size 5 _ 1 1 Tryd.underlying53 infoB rfl (by decide) (.slice a6 E.length c6) E.length (bts E) rfl HO.out _ Y.length (bts Y) rfl HRD.out (bts_one _) HN1.out (by omega) hsz ?_))
          intro v4 w4 hv4 hg4
          rw [← bts_append, ← List.length_append, ← HS.out] at hv4
          have HV4 := Lib.hid hv4
          have HB4 := Lib.hid (below_append HB.out HO.out hg4 hsz)
          obtain ⟨a7, c7, rfl, -, -⟩ := owns_slice hv4
          clear hv4 hg4
          go_wp2_with fail
          go_roundw
          case rel => exact ⟨k + 1, _, rfl, by go_num, by omega, HV4, HB4⟩
          case measure => simp [intOf]; omega
        · have hke : k = XS.length := by omega
          subst hke
          have hkI : ¬ (XS.length : Int) < (XS.length : Int) := by omega
          rw [List.take_length, HT.out] at HO
          go_wp2_with fail
          go_ret
          exact ⟨⟨_, rfl, IsBts.of_owns HO.out⟩, HB.out⟩

/-- The hash value of an inner node. -/
def nodeF (KS a b : List Int) : List Int := sumF KS ([1] ++ a ++ b)
theorem nodeF_len (KS a b : List Int) : (nodeF KS a b).length = 32 := sumF_len _ _

theorem step_store_row {P : Program} {ops : Array Oper} {o : Oper} {a : Act} {w : World} {K : Act → World → Prop} {Q : Exit → Act → World → Prop} {E : Prop} (hgd : o.guard = none) (ty : TypeId) (x y : Operand) (ho : o.op = .store ty x y)
    (g : Nat) (cells : Array Value) (hx : a.eval x = .pointer (some ⟨g, 0, none⟩)) (hy : a.eval y = .agg cells)
    (t : TypeId) (old : Array Value) (hg : w.heap[g]? = some (.cells old t (0, 0))) (hi : (P.info? ty).map (·.size) = some cells.size)
    (hold : old.size = cells.size) (h1 : cells.all (·.oneCell') = true) (h : K (a.put o.dst undef) (w.setRow g cells)) :
    if Region.wanted o (yielded ops a.tmps) = true then o.wp P a w K Q else E := by
  have hw : Region.wanted o (yielded ops a.tmps) = true := by simp [Region.wanted, hgd]
  rw [if_pos hw]
  exact wp_store_row ty x y ho g cells hx hy t old hg hi hold h1 h

end Go.Proofs.YtgfnelpfoegdaaaDoor
