/-
  digest.Close. (Printed by wip/tools/gen_dgd.py.)
-/
import Derived.Test.YtgfnelpfoegdaaaDoorDgD
namespace Go.Proofs.YtgfnelpfoegdaaaDoor
open Go.RowKit

theorem sizes8 : ∃ i, Tryd.prog.info? 86 = some i ∧ i.size = 8 := by
  cases hq : Tryd.prog.info? 86 with
  | none => have h := info8; simp [hq] at h
  | some i => exact ⟨i, rfl, by have h := info8; simpa [hq] using h⟩
theorem run_fieldH (H : List Int) (u : Value) (n : Int) (W : World) (hh : H.length = 8) : (Instr.field 88 (.agg (dgC H u n).toArray) 0).run Tryd.prog W = .ok (.agg (H.map (Value.int .u32)).toArray) W := by
  obtain ⟨i, hi, hs⟩ := sizes8
  have hl : (H.map (Value.int .u32)).length = 8 := by simpa using hh
  have e : (dgC H u n).take 8 = H.map (Value.int .u32) := by
    unfold dgC
    rw [← hl]
    exact List.take_left
  simp [Instr.field, run_underlying Tryd.underlying88, part, isAgg, run_underlying Tryd.underlying86, sizeOf, typeInfo, hi, hs, asAgg, e]

/-- The bytes behind the message. -/
def endGo (N : Int) (E : List Int) : Nat → List Int
  | 0 => E
  | k + 1 => endGo N E k ++ [N / 2 ^ (56 - 8 * k) % 256]
theorem endGo_len (N : Int) (E : List Int) : ∀ k, (endGo N E k).length = E.length + k
  | 0 => rfl
  | k + 1 => by show (endGo N E k ++ _).length = _; rw [List.length_append, endGo_len N E k]; rfl
def endF (n : Int) : List Int := endGo (n * 8) ([128] ++ List.replicate ((119 - n % 64) % 64).toNat 0) 8
/-- The bytes of the words. -/
def outGo (x : Int) (i : Nat) (O : List Int) : Nat → List Int
  | 0 => O
  | k + 1 => (outGo x i O k).set (4 * i + k) (x / 2 ^ (24 - 8 * k) % 256)
def outAll (H : List Int) : Nat → List Int
  | 0 => List.replicate 32 0
  | i + 1 => outGo (H.getD i 0) i (outAll H i) 4
theorem outGo_len (x : Int) (i : Nat) (O : List Int) : ∀ k, (outGo x i O k).length = O.length
  | 0 => rfl
  | k + 1 => by show ((outGo x i O k).set _ _).length = _; rw [List.length_set, outGo_len x i O k]
theorem outAll_len (H : List Int) : ∀ i, (outAll H i).length = 32
  | 0 => by simp [outAll]
  | i + 1 => by show (outGo _ i (outAll H i) 4).length = _; rw [outGo_len, outAll_len H i]
/-- The hash value of a state. -/
def closeF (KS H T : List Int) (n : Int) : List Int := outAll (dgRun KS H (T ++ endF n)).1 8
theorem closeF_len (KS H T : List Int) (n : Int) : (closeF KS H T n).length = 32 := outAll_len _ _
theorem info32 : (Tryd.prog.info? 33).map (·.size) = some 32 := by kernel_rfl
theorem u8_all (xs : List Int) : (xs.map (Value.int .u8)).toArray.all (·.oneCell') = true := by simp [Value.oneCell']

set_option maxHeartbeats 4000000 in
set_option maxRecDepth 100000 in
theorem dgClose (KS H T : List Int) (u : Value) (n : Int) (w : World) (hh : H.length = 8) (hk : KS.length = 64) (hu : IsBts w u T) (hg : w.rangeAt 0 0 (KS.map (Value.int .u32))) (hT : T.length ≤ 1000) (hn : 0 ≤ n ∧ n ≤ 1000000) :
    Calls Tryd.prog 51 #[.agg (dgC H u n).toArray] w fun e w' => e = .returned (.agg ((closeF KS H T n).map (Value.int .u8)).toArray) ∧ Below w.heap.size w w' := by
  obtain ⟨RES, hRES⟩ : ∃ R, closeF KS H T n = R := ⟨_, rfl⟩
  have hRl : RES.length = 32 := by rw [← hRES]; exact closeF_len _ _ _ _
  rw [hRES]
  have HRES := Lib.hid hRES
  obtain ⟨P, hP⟩ : ∃ P, P = w.heap.size := ⟨_, rfl⟩
  have hP0 : 0 < P := by rw [hP]; have h9 := hg 0 (.int .u32 KS[0]) (by simp [hk]); exact World.block_lt_of_cell? w _ h9
  obtain ⟨W1, hW1⟩ : ∃ W1, W1 = (w.alloc (.cells (dgC H u n).toArray 88)).alloc (.cells #[.int .u8 0, .int .u8 0, .int .u8 0, .int .u8 0, .int .u8 0, .int .u8 0, .int .u8 0, .int .u8 0, .int .u8 0, .int .u8 0, .int .u8 0, .int .u8 0, .int .u8 0, .int .u8 0, .int .u8 0, .int .u8 0, .int .u8 0, .int .u8 0, .int .u8 0, .int .u8 0, .int .u8 0, .int .u8 0, .int .u8 0, .int .u8 0, .int .u8 0, .int .u8 0, .int .u8 0, .int .u8 0, .int .u8 0, .int .u8 0, .int .u8 0, .int .u8 0] 33) := ⟨_, rfl⟩
  have hz1 : (w.alloc (.cells (dgC H u n).toArray 88)).heap.size = P + 1 := by rw [hP]; simp
  have hd0 : W1.heap[P]? = some (.cells (dgC H u n).toArray 88 (0, 0)) := by
    rw [hW1, hP]
    rw [(World.grownBy_alloc (w.alloc (.cells (dgC H u n).toArray 88)) (.cells #[.int .u8 0, .int .u8 0, .int .u8 0, .int .u8 0, .int .u8 0, .int .u8 0, .int .u8 0, .int .u8 0, .int .u8 0, .int .u8 0, .int .u8 0, .int .u8 0, .int .u8 0, .int .u8 0, .int .u8 0, .int .u8 0, .int .u8 0, .int .u8 0, .int .u8 0, .int .u8 0, .int .u8 0, .int .u8 0, .int .u8 0, .int .u8 0, .int .u8 0, .int .u8 0, .int .u8 0, .int .u8 0, .int .u8 0, .int .u8 0, .int .u8 0, .int .u8 0] 33) none).block w.heap.size (by simp) (by simp)]
    exact World.alloc_heap_new w _
  have hd1 : NRow W1 .u8 (P + 1) 33 (List.replicate 32 0) := by
    rw [hW1, ← hz1]
    exact World.alloc_heap_new _ _
  have hda : DgAt W1 P H u n := by
    refine ⟨fun j x hj => ?_, fun j hj => ⟨?_, frozen_of_row W1 P _ _ _ hd0⟩⟩
    · rw [cell_of_row W1 P _ _ _ _ hd0, Nat.zero_add]
      simpa using hj
    · rw [cell_of_row W1 P _ _ _ _ hd0, Nat.zero_add]
      simp [dgC_len hh, hj]
  have hb1 : Below P w W1 := by rw [hW1, hP]; exact ((Below.refl _ _).alloc (Nat.le_refl _) _).alloc (by simp) _
  have c9e := hda.c9 hh
  rw [hW1, hP] at c9e
  have hsz : W1.heap.size = P + 1 + 1 := by rw [hW1]; simp [hP]
  have HSZ := Lib.hid hsz
  have HW1 := Lib.hid hW1
  have HP := Lib.hid hP
  have HD := Lib.hid hda
  have HB := Lib.hid hb1
  have HD1 := Lib.hid hd1
  have HU := Lib.hid (hu.below (hb1.mono (Nat.le_of_eq hP.symm)))
  have HG := Lib.hid hg
  have HU0 := Lib.hid hu
  have htm : n.tmod 64 = n % 64 := Int.tmod_eq_emod_of_nonneg hn.1
  obtain ⟨m, hm⟩ : ∃ m : Nat, ((119 - n % 64) % 64).toNat = m := ⟨_, rfl⟩
  have htm2 : (119 - n % 64).tmod 64 = (m : Int) := by rw [Int.tmod_eq_emod_of_nonneg (by omega)]; omega
  have hm64 : m < 64 := by omega
  have HM := Lib.hid hm
  have hwn : IntKind.u64.wrap n = n := by simp [IntKind.wrap, IntKind.bits, IntKind.signed]; omega
  have hwm : IntKind.u64.wrap (n * 8) = n * 8 := by simp [IntKind.wrap, IntKind.bits, IntKind.signed]; omega
  have hws : IntKind.i64.wrap (119 - n % 64) = 119 - n % 64 := by rw [IntKind.wrap_i64]; omega
  obtain ⟨au, cu, rfl, -, -, -⟩ := hu.open
  have hsrc : (W1.alloc (.cells #[.int .u8 128] 5)).ownsRow (P + 1 + 1) 5 1 (.slice (some ⟨P + 1 + 1, 0, none⟩) 1 1) 1 [.int .u8 128] := by
    refine ⟨rfl, .inr ⟨P + 1 + 1, 1, #[.int .u8 128], rfl, Nat.le_refl _, ?_, Nat.le_refl _, by unfold maxLen; omega, rfl, rfl⟩⟩
    rw [← hsz]
    exact World.alloc_heap_new W1 _
  obtain ⟨iB, hiB, hB0, hB1, hB2⟩ := info_parts infoB
  obtain ⟨V4, W4, hrun4, ho4, hg4⟩ := run_zeros_full (P := Tryd.prog) (W1.alloc (.cells #[.int .u8 128] 5)) (P + 1 + 1) 53 3 53 5 iB .i64 Tryd.underlying53 Tryd.underlying3 hiB hB0 hB1 hB2 (P + 1 + 1) 1 [.int .u8 128] hsrc m (by omega) (by omega)
  have hg14 : W1.grownBy W4 (some (P + 1 + 1)) := (World.grownBy_alloc W1 _ _).trans hg4
  have hb14 : Below (P + 1 + 1) W1 W4 := (Below.refl _ _).grown hg14 (by omega) (fun k hk => by have := Option.some.inj hk; omega)
  rw [show ([.int .u8 128] : List Value) ++ List.replicate m (.int .u8 0) = bts ([128] ++ List.replicate m 0) by simp [bts]] at ho4
  have HO4 := Lib.hid ho4
  have HD4 := Lib.hid (hda.below hb14 (by omega))
  have HD14 := Lib.hid (hd1.below hb14 (by omega))
  have HU4 : Hid (IsBts W4 (.slice au T.length cu) T) := (hu.below (hb1.mono (Nat.le_of_eq hP.symm))).below (hb14.mono (by omega))
  have HB4 := Lib.hid (hb1.trans (hb14.mono (by omega)))
  rw [hW1, show P + 1 + 1 = w.heap.size + 1 + 1 by rw [hP]] at hrun4
  have HRUN4 := Lib.hid hrun4
  clear hsrc hrun4 ho4 hg4 hg14 hb14 hiB hB0 hB1 hB2
  clear hRES hW1 hz1 hd0 hd1 hda hb1 hu hg hsz hP
  go_enter Tryd.func51, Tryd.ntmps51
  go_wp2_with (at_builtin; go_must (refine Lib.wpList_append_run _ rfl _ _ 53 3 rfl _ _ rfl rfl V4 W4 HRUN4.out ?_))
  rw [← HP.out]
  clear HRUN4 c9e htm htm2 hwn hwm hws
  obtain ⟨E0, hE0⟩ : ∃ E, [128] ++ List.replicate m (0 : Int) = E := ⟨_, rfl⟩
  have hE0l : E0.length = 1 + m := by rw [← hE0]; simp; omega
  rw [hE0] at HO4
  have HE0 := Lib.hid hE0
  clear hE0
  go_loopw [4, 5] (fun v s wr => ∃ (k : Nat) (v4 : Value), v4 = v ∧ s = .int .i64 (56 - 8 * (k : Int)) ∧ k ≤ 8 ∧ Hid (wr.ownsRow (P + 1 + 1) 5 1 v4 (1 + m + k) (bts (endGo (n * 8) E0 k))) ∧ Hid (DgAt wr P H (.slice au T.length cu) n) ∧ Hid (NRow wr .u8 (P + 1) 33 (List.replicate 32 0)) ∧ Hid (Below P w wr) ∧ P + 1 + 1 ≤ wr.heap.size) (fun _ s _ => (intOf s + 8).toNat)
  case atStart => exact ⟨0, V4, rfl, rfl, by omega, HO4, HD4, HD14, HB4, by have h := HD14.out.lt; omega⟩
  case round =>
    obtain ⟨k, v4, rfl, rfl, hk8, HO, HDG, HDZ, HBB, hszr⟩ := hrel
    obtain ⟨a4, c4, rfl, -, -⟩ := owns_slice HO.out
    by_cases hkl : k < 8
    · obtain ⟨sf, hsf⟩ : ∃ sf : Nat, 56 - 8 * k = sf := ⟨_, rfl⟩
      have hsfI : (56 - 8 * (k : Int)) = (sf : Int) := by omega
      have HSF := Lib.hid hsf
      rw [hsfI]
      have hs0 : (0 : Int) ≤ (sf : Int) := by omega
      have hmin : min sf 64 = sf := by omega
      have hsub : IntKind.i64.wrap ((sf : Int) - 8) = 56 - 8 * ((k + 1 : Nat) : Int) := by rw [IntKind.wrap_i64]; omega
      have HLB : Hid (∀ (W : World) (x : Int), Rd (W.alloc (.cells #[.int .u8 x] 5)) (.slice (some ⟨W.heap.size, 0, none⟩) 1 1) 1 1 [.int .u8 x]) := fun W x => Rd.lit W #[.int .u8 x] 5 1 1 rfl (by unfold maxLen; omega)
      have HO1 : Hid (∀ (x : Int), ∀ u ∈ [Value.int .u8 x], u.oneCell' = true) := fun x u hu => by rw [List.mem_singleton] at hu; subst hu; rfl
      have HN1 : Hid (1 + m + k + 1 ≤ maxLen) := (by show _ ≤ _; unfold maxLen; omega)
      have hsfK := Lib.hid (show 8 * k + sf = 56 by omega)
      clear hsf hsfI
      go_wp2_with (at_builtin; go_must (refine wpList_append_rd rfl _ _ 53 rfl (P + 1 + 1) 5 _ 1 1 Tryd.underlying53 infoB rfl (by decide) (.slice a4 (1 + m + k) c4) (1 + m + k) (bts (endGo (n * 8) E0 k)) rfl (HO.out.alloc _) _ 1 [.int .u8 (n * 8 / 2 ^ sf % 256)] rfl (HLB.out _ _) (HO1.out _) HN1.out (by omega) ?b3 ?_))
      case b3 => first | omega | (simp; omega)
      intro v5 w5 hv5 hg5
      have hgw : wr.grownBy w5 (Value.slice a4 (1 + m + k) c4).ownBlock := (World.grownBy_alloc _ _ _).trans hg5
      have hown : ∀ k', (Value.slice a4 (1 + m + k) c4).ownBlock = some k' → P + 1 + 1 ≤ k' := fun k' hk' => (HO.out.lt k' hk').1
      have hb5 : Below (P + 1 + 1) wr w5 := (Below.refl _ _).grown hgw hszr hown
      have HDG5 := Lib.hid (HDG.out.below hb5 (by omega))
      have HDZ5 := Lib.hid (HDZ.out.below hb5 (by omega))
      have HB5 := Lib.hid (HBB.out.trans (hb5.mono (by omega)))
      have HV5 : Hid (w5.ownsRow (P + 1 + 1) 5 1 v5 (1 + m + (k + 1)) (bts (endGo (n * 8) E0 (k + 1)))) := by
        show World.ownsRow _ _ _ _ _ _ (bts (endGo (n * 8) E0 k ++ [n * 8 / 2 ^ (56 - 8 * k) % 256]))
        rw [show 56 - 8 * k = sf by have := hsfK.out; omega, bts_append]
        exact hv5
      have hsz5 : P + 1 + 1 ≤ w5.heap.size := Nat.le_trans hszr hgw.size
      obtain ⟨a5, c5, rfl, -, -⟩ := owns_slice hv5
      clear hgw hown hb5 hv5 hg5 HO HDG HDZ HBB
      go_wp2_with fail
      go_roundw
      case rel => exact ⟨k + 1, _, rfl, rfl, by omega, HV5, HDG5, HDZ5, HB5, hsz5⟩
      case measure => have := hsfK.out; simp [intOf]; omega
    · have hk8' : k = 8 := by omega
      subst hk8'
      have hEl : (endGo (n * 8) E0 8).length = 1 + m + 8 := by rw [endGo_len, hE0l]
      have hEF : endF n = endGo (n * 8) E0 8 := by unfold endF; rw [HM.out, HE0.out]
      obtain ⟨E, hE⟩ : ∃ E, endGo (n * 8) E0 8 = E := ⟨_, rfl⟩
      rw [hE] at HO hEl hEF
      have hIE : IsBts wr (.slice a4 (1 + m + 8) c4) E := by
        have h := HO.out
        rw [← hEl] at h
        have h2 := IsBts.of_owns h
        rw [hEl] at h2
        exact h2
      have hrl := dgRun_len KS _ H (T ++ E) (Nat.le_refl _) hh
      have hRE : outAll (dgRun KS H (T ++ E)).1 8 = RES := by rw [← HRES.out]; unfold closeF; rw [hEF]
      obtain ⟨W6, hW6⟩ : ∃ W6, W6 = wr.alloc (.cells #[.int .u8 0, .int .u8 0, .int .u8 0, .int .u8 0, .int .u8 0, .int .u8 0, .int .u8 0, .int .u8 0, .int .u8 0, .int .u8 0, .int .u8 0, .int .u8 0, .int .u8 0, .int .u8 0, .int .u8 0, .int .u8 0, .int .u8 0, .int .u8 0, .int .u8 0, .int .u8 0, .int .u8 0, .int .u8 0, .int .u8 0, .int .u8 0, .int .u8 0, .int .u8 0, .int .u8 0, .int .u8 0, .int .u8 0, .int .u8 0, .int .u8 0, .int .u8 0] 33) := ⟨_, rfl⟩
      obtain ⟨Q, hQ⟩ : ∃ Q, Q = wr.heap.size := ⟨_, rfl⟩
      have hb6 : Below wr.heap.size wr W6 := by rw [hW6]; exact (Below.refl _ _).alloc (Nat.le_refl _) _
      have hz6 : NRow W6 .u8 Q 33 (List.replicate 32 0) := by rw [hW6, hQ]; exact NRow.new wr .u8 33 (List.replicate 32 0)
      have HZ6 := Lib.hid hz6
      have HDG6 := Lib.hid (HDG.out.below hb6 (by omega))
      have HDZ6 := Lib.hid (HDZ.out.below hb6 (by omega))
      have HB6 := Lib.hid (HBB.out.trans (hb6.mono (by omega)))
      have hwr := dgWrite KS H T E (.slice au T.length cu) (.slice a4 (1 + m + 8) c4) n W6 hh hk (HU0.out.below (HB6.out.mono (Nat.le_of_eq HP.out.symm))) (hIE.below hb6) (range_below HG.out HB6.out hP0) hT (by omega) hn
      have HWR := Lib.hid hwr
      have hr6 := HDG6.out.rg
      rw [hW6] at hr6
      have HR6 := Lib.hid hr6
      have hQP : P + 1 < Q := by omega
      have HQ := Lib.hid hQ
      have HW6 := Lib.hid hW6
      have hfl := fun (u' : Value) (n' : Int) (X : World) => run_fieldH (dgRun KS H (T ++ E)).1 u' n' X hrl.1
      obtain ⟨H2, hH2⟩ : ∃ x, (dgRun KS H (T ++ E)).1 = x := ⟨_, rfl⟩
      rw [hH2] at hfl hRE hrl HWR
      have HRE := Lib.hid hRE
      rw [show (56 - 8 * ((8 : Nat) : Int)) = -8 from rfl]
      clear hE hEF hIE hW6 hQ hb6 hz6 hwr hr6 hRE hH2 HO
      go_wp2_with (refine wpList_load_mid rfl 88 _ rfl P 0 rfl (dgC H (.slice au T.length cu) n) _ HR6.out Tryd.underlying88 rfl (by rw [info10, dgC_len hh]) ?_)
      rw [← HW6.out, ← HQ.out]
      refine HWR.out.mono ?_
      rintro e w7 ⟨⟨u7, rfl, -⟩, b7⟩
      have hQ6 := HZ6.out.lt
      have HZ7 : Hid (NRow w7 .u8 Q 33 (outAll H2 0)) := HZ6.out.below b7 hQ6
      have HDZ7 := Lib.hid (HDZ6.out.below b7 (by omega))
      have HB7 := Lib.hid (HB6.out.trans (b7.mono (by omega)))
      clear b7 HWR HR6 HDG6 HB6 HZ6 HDZ6
      go_wp2_with fail
      go_loopw [36] (fun s wr => ∃ (i : Nat), s = .int .i64 i ∧ i ≤ 8 ∧ Hid (NRow wr .u8 Q 33 (outAll H2 i)) ∧ Hid (NRow wr .u8 (P + 1) 33 (List.replicate 32 0)) ∧ Hid (Below P w wr)) (fun s _ => 8 - (intOf s).toNat)
      case atStart => exact ⟨0, rfl, by omega, HZ7, HDZ7, HB7⟩
      case round =>
        obtain ⟨i, rfl, hi8, HO, HZ, HBC⟩ := hrel
        have ei : IntKind.i64.wrap ((i : Int) + 1) = ((i + 1 : Nat) : Int) := by rw [IntKind.wrap_i64]; omega
        by_cases hil : i < 8
        · have hiI : (i : Int) < 8 := by omega
          obtain ⟨x, hx⟩ : ∃ x, H2.getD i 0 = x := ⟨_, rfl⟩
          have hKi : (H2.map (Value.int .u32)).toArray[i]? = some (.int .u32 x) := by
            rw [← hx, getD_at (by omega)]
            simp [hrl.1, hil]
          have hIX : ∀ X : World, (Instr.index 86 (.agg (H2.map (Value.int .u32)).toArray) (.int .i64 (i : Int))).run Tryd.prog X = .ok (.int .u32 x) X := fun X =>
            run_index_arr _ _ 8 _ .i64 .u32 i _ X Tryd.underlying86 Tryd.underlying85 (by kernel_rfl) hil hKi
          have e4 : IntKind.i64.wrap (4 * (i : Int)) = ((4 * i : Nat) : Int) := by rw [IntKind.wrap_i64]; omega
          have HNX : Hid (outAll H2 (i + 1) = outGo x i (outAll H2 i) 4) := by show outGo (H2.getD i 0) i (outAll H2 i) 4 = _; rw [hx]
          obtain ⟨O, hO⟩ : ∃ O, outAll H2 i = O := ⟨_, rfl⟩
          have hOl : O.length = 32 := by rw [← hO, outAll_len]
          rw [hO] at HO HNX
          clear hx hKi hO
          go_wp2_with fail
          go_loopw [40] (fun s wr => ∃ (k : Nat), s = .int .i64 k ∧ k ≤ 4 ∧ Hid (NRow wr .u8 Q 33 (outGo x i O k)) ∧ Hid (NRow wr .u8 (P + 1) 33 (List.replicate 32 0)) ∧ Hid (Below P w wr)) (fun s _ => 4 - (intOf s).toNat)
          case atStart => exact ⟨0, rfl, by omega, HO, HZ, HBC⟩
          case round =>
            obtain ⟨k, rfl, hk4, HO2, HZ2, HBC2⟩ := hrel
            have ek : IntKind.i64.wrap ((k : Int) + 1) = ((k + 1 : Nat) : Int) := by rw [IntKind.wrap_i64]; omega
            by_cases hkl : k < 4
            · have hkI : (k : Int) < 4 := by omega
              obtain ⟨sf, hsf⟩ : ∃ sf : Nat, 24 - 8 * k = sf := ⟨_, rfl⟩
              obtain ⟨ix, hix⟩ : ∃ ix : Nat, 4 * i + k = ix := ⟨_, rfl⟩
              have e5 : IntKind.i64.wrap (4 * (i : Int) + (k : Int)) = (ix : Int) := by rw [IntKind.wrap_i64]; omega
              have e8 : IntKind.i64.wrap (8 * (k : Int)) = 8 * (k : Int) := by rw [IntKind.wrap_i64]; omega
              have e24 : IntKind.i64.wrap (24 - 8 * (k : Int)) = (sf : Int) := by rw [IntKind.wrap_i64]; omega
              have hmin : min sf 32 = sf := by omega
              have hs0 : (0 : Int) ≤ (sf : Int) := by omega
              have hi32 : (ix : Int) < 32 := by omega
              have hOl2 : (outGo x i O k).length = 32 := by rw [outGo_len, hOl]
              have c1 := HO2.out.cell (i := ix) (by omega)
              have f1 := HO2.out.frozen ix
              obtain ⟨y, hy⟩ : ∃ y, (outGo x i O k)[ix]'(by omega) = y := ⟨_, rfl⟩
              rw [hy] at c1
              have hn := HO2.out.set ix (x / 2 ^ sf % 256)
              have HN : Hid (NRow (wr.setCell ⟨Q, ix, none⟩ (.int .u8 (x / 2 ^ sf % 256))) .u8 Q 33 (outGo x i O (k + 1))) := by
                show NRow _ _ _ _ ((outGo x i O k).set (4 * i + k) (x / 2 ^ (24 - 8 * k) % 256))
                rw [hsf, hix]
                exact hn
              have HZN := Lib.hid (HZ2.out.other ⟨Q, ix, none⟩ (.int .u8 (x / 2 ^ sf % 256)) (by show P + 1 ≠ Q; omega))
              have HBN := Lib.hid (HBC2.out.setCell (p := ⟨Q, ix, none⟩) (by show P ≤ Q; omega) (.int .u8 (x / 2 ^ sf % 256)))
              clear hn hsf hix hy
              go_wp2_with fail
              go_roundw
              case rel => exact ⟨k + 1, by go_num, by omega, HN, HZN, HBN⟩
              case measure => simp [intOf]; omega
            · have hke : k = 4 := by omega
              subst hke
              rw [← HNX.out] at HO2
              rw [show ((4 : Nat) : Int) = 4 from rfl]
              go_wp2_with fail
              go_roundw
              case rel => exact ⟨i + 1, by go_num, by omega, HO2, HZ2, HBC2⟩
              case measure => simp [intOf]; omega
        · have hie : i = 8 := by omega
          subst hie
          rw [show ((8 : Nat) : Int) = 8 from rfl]
          rw [HRE.out] at HO
          have HZF : Hid (NRow (wr.setRow (P + 1) (RES.map (Value.int .u8)).toArray) .u8 (P + 1) 33 RES) := HZ.out.store
          have HBF : Hid (Below w.heap.size w (wr.setRow (P + 1) (RES.map (Value.int .u8)).toArray)) := by
            rw [← HP.out]
            exact HBC.out.trans ⟨rfl, rfl, rfl, by simp, fun k hk => setRow_other wr (P + 1) k _ (by omega)⟩
          obtain ⟨W8, rfl⟩ : ∃ W8 : World, W8 = wr := ⟨_, rfl⟩
          go_wp2_with (first
            | (refine wpList_load_row rfl 33 _ rfl Q rfl 33 (RES.map (Value.int .u8)).toArray (0, 0) _ HO.out Tryd.underlying33 rfl (by rw [info32]; simp [hRl]) ?_)
            | (refine wpList_store_row rfl 33 _ _ rfl (P + 1) (RES.map (Value.int .u8)).toArray rfl rfl 33 _ HZ.out (by rw [info32]; simp [hRl]) (by simp [hRl]) (u8_all _) ?_))
          refine bodyPost_ret (results_cell_row rfl _ _ (P + 1) 33 (RES.map (Value.int .u8)).toArray (0, 0) _ rfl HZF.out Tryd.underlying33 rfl (by rw [info32]; simp [hRl])) rfl ?_
          exact ⟨rfl, HBF.out⟩

end Go.Proofs.YtgfnelpfoegdaaaDoor
