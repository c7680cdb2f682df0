/-
  rollbooklaw33.leaves: the leaves of the hash tree of events.
-/
import Derived.Test.YtgfnelpfoegdaaaDoorMk0
namespace Go.Proofs.YtgfnelpfoegdaaaDoor
open Go.RowKit

/-- The leaf of one event. -/
def leafE (KS : List Int) (x : Int) : List Int := leafF KS (encU (2 * x.toNat))
theorem leafE_len (KS : List Int) (x : Int) : (leafE KS x).length = 32 := leafF_len _ _
theorem leaves32 (KS : List Int) (xs : List Int) : All32 (xs.map (leafE KS)) := fun h hh => by
  obtain ⟨x, _, rfl⟩ := List.mem_map.1 hh
  exact leafE_len KS x

theorem infoHashB : ∃ z, (Tryd.prog.info? 33).map (fun i => (i.zero, i.size, i.bytes)) = some (some z, 32, 32) ∧ z.cells.size = 32 := by
  have hi3 : (Tryd.prog.info? 33).map (fun i => (i.zero.map (·.cells.size), i.size, i.bytes)) = some (some 32, 32, 32) := by kernel_rfl
  cases hq : Tryd.prog.info? 33 with
  | none => rw [hq] at hi3; cases hi3
  | some i =>
    rw [hq] at hi3
    simp only [Option.map_some, Option.some.injEq, Prod.mk.injEq] at hi3
    obtain ⟨hz, hsz, hby⟩ := hi3
    cases hz1 : i.zero with
    | none => rw [hz1] at hz; cases hz
    | some z =>
      rw [hz1] at hz
      simp only [Option.map_some, Option.some.injEq] at hz
      exact ⟨z, by simp [hz1, hsz, hby], hz⟩

theorem leaves_snoc (KS : List Int) (xs : List Int) (k : Nat) (hkn : k < xs.length) : bts ((xs.take (k + 1)).map (leafE KS)).flatten = bts ((xs.take k).map (leafE KS)).flatten ++ bts (leafE KS xs[k]) := by
  rw [List.take_succ_eq_append_getElem hkn, List.map_append, List.flatten_append, List.map_singleton, List.flatten_singleton, bts_append]

set_option maxHeartbeats 2000000 in
set_option maxRecDepth 100000 in
theorem leaves_any (KS : List Int) (hk : KS.length = 64) (xs : List Int) (v : Value) (w : World) (hx : IsInts w v xs) (hr : ∀ x ∈ xs, 0 ≤ x ∧ x < 1000000) (hg : w.rangeAt 0 0 (KS.map (Value.int .u32))) (hl : xs.length ≤ 65536) :
    Calls Tryd.prog 7 #[v] w fun e w' => ∃ v', e = .returned v' ∧ IsHs w' v' (xs.map (leafE KS)) ∧ Below w.heap.size w w' := by
  obtain ⟨ad, cap, rfl, hlen, -, hc⟩ := hx.open
  unfold maxLen at hlen
  have hB0 : 0 < w.heap.size := by have h9 := hg 0 (.int .u32 KS[0]) (by simp [hk]); exact World.block_lt_of_cell? w _ h9
  have HG := Lib.hid hg
  have HC := Lib.hid hc
  have HR := Lib.hid hr
  obtain ⟨i, z, hi, hz, hsz⟩ := infoHash
  obtain ⟨zb, hzb, hzc⟩ := infoHashB
  have HSZ := Lib.hid hsz
  clear hx hc hr hg hsz
  go_enter Tryd.func7, Tryd.ntmps7
  go_wp2_with fail
  go_loopw [3, 4] (fun a i wr => ∃ k : Nat, i = .int .i64 k ∧ k ≤ xs.length ∧ Hid (wr.ownsRow w.heap.size 33 32 a k (bts ((xs.take k).map (leafE KS)).flatten)) ∧ w.heap.size ≤ wr.heap.size ∧ Hid (Below w.heap.size w wr)) (fun _ i _ => xs.length + 1 - (intOf i).toNat)
  case atStart => exact ⟨0, rfl, by omega, Lib.hid (by simpa [bts] using World.ownsRow_nil w w.heap.size 33 32), Nat.le_refl _, Lib.hid (Below.refl _ _)⟩
  case round =>
    obtain ⟨k, rfl, hkl, HO, hsw, HB⟩ := hrel
    by_cases hlt : (k : Int) < (xs.length : Int)
    · have hkn : k < xs.length := by omega
      obtain ⟨bb, off, rfl, hcell0⟩ := HC.out k hkn
      have hcell : wr.cell? ⟨bb, off + k, none⟩ = some (.int .i64 xs[k]) := (HB.out.cell (World.block_lt_of_cell? _ _ hcell0)).trans hcell0
      have hbb : bb < wr.heap.size := World.block_lt_of_cell? _ _ hcell
      obtain ⟨m, hm⟩ : ∃ m : Nat, xs[k] = (m : Int) := ⟨(xs[k]).toNat, by have := (HR.out _ (List.getElem_mem hkn)).1; omega⟩
      have hm6 : m < 1000000 := by have := (HR.out _ (List.getElem_mem hkn)).2; omega
      have htk := leaves_snoc KS xs k hkn
      have hle : leafE KS xs[k] = leafF KS (encU (2 * m)) := by show leafF KS (encU (2 * (xs[k]).toNat)) = _; rw [hm, Int.toNat_natCast]
      rw [hle] at htk
      obtain ⟨Q, hQ⟩ : ∃ Q, Q = wr.heap.size := ⟨_, rfl⟩
      obtain ⟨W1, hW1⟩ : ∃ W1, W1 = wr.alloc (.cells #[.slice none 0 0] 57) := ⟨_, rfl⟩
      have hbw1 : Below wr.heap.size wr W1 := by rw [hW1]; exact (Below.refl _ _).alloc (Nat.le_refl _) _
      have hc1 : W1.cell? ⟨bb, off + k, none⟩ = some (.int .i64 m) := by rw [hbw1.cell hbb, hcell, hm]
      have hwr : Wr W1 Q Q (.slice none 0 0) [] := by rw [hW1, hQ]; exact Wr.new wr
      have hin := wrInt m (by omega) [] Q Q _ W1 hwr (by simp)
      have HIN := Lib.hid hin
      have HQ := Lib.hid hQ
      have HBW := Lib.hid hbw1
      have hel : (encU (2 * m)).length ≤ 4 := encU_len (2 * m) 3 (by omega)
      obtain ⟨LF, hLF⟩ : ∃ L, leafF KS (encU (2 * m)) = L := ⟨_, rfl⟩
      have hLl : LF.length = 32 := by rw [← hLF]; exact leafF_len _ _
      rw [hLF] at htk
      have HTK := Lib.hid htk
      have HLF := Lib.hid hLF
      rw [hW1] at hc1
      have HW1 := Lib.hid hW1
      have HXK := Lib.hid hm
      clear hcell hcell0 hbw1 hwr hin hQ htk hLF hm hW1 hle
      go_wp2_with fail
      rw [← HW1.out, ← HQ.out]
      refine HIN.out.mono ?_
      rintro e w2 ⟨rfl, v2, HW2, hb2, -⟩
      have hb2' : Below wr.heap.size wr w2 := HBW.out.trans (HQ.out ▸ hb2)
      have HB2 := Lib.hid hb2'
      have HDN := Lib.hid (wrDone (encU (2 * m)) Q Q v2 w2 HW2.out (by omega))
      clear hb2 hb2' HIN HW1 HBW
      go_wp2_with fail
      refine HDN.out.mono ?_
      rintro e w3 ⟨v3, rfl, hi3, hb3⟩
      have hb3' : Below wr.heap.size wr w3 := Below.to HB2.out hb3 HB2.out.size
      have HLE := Lib.hid (dgLeaf KS (encU (2 * m)) v3 w3 hk hi3 (range_below (range_below HG.out HB.out hB0) hb3' (by omega)) (by omega))
      rw [HLF.out] at HLE
      have HB3 := Lib.hid hb3'
      clear hi3 hb3 hb3' HDN HB2 HW2
      go_wp2_with fail
      refine HLE.out.mono ?_
      rintro e w4 ⟨rfl, hb4⟩
      have hb4' : Below wr.heap.size wr w4 := Below.to HB3.out hb4 HB3.out.size
      have hal : Below w4.heap.size w4 (w4.alloc (.cells (LF.map (Value.int .u8)).toArray 33)) := (Below.refl _ _).alloc (Nat.le_refl _) _
      have hb5 : Below wr.heap.size wr (w4.alloc (.cells (LF.map (Value.int .u8)).toArray 33)) := Below.to hb4' hal hb4'.size
      have HO5 := Lib.hid (owns_below HO.out hb5)
      have HS5 := Lib.hid (hash_lit w4 LF hLl).1
      have HB5 := Lib.hid hb5
      have HBW5 := Lib.hid (Below.to HB.out hb5 HB.out.size)
      clear hb4 hb4' hal hb5 HLE HB3
      go_wp2_with
        (first
          | (refine wpList_buildSlice_one rfl 29 _ rfl (LF.map (Value.int .u8)).toArray rfl 33 i z Tryd.underlying29 hi hz (by rw [HSZ.out]; simp [hLl]) (by simp [hLl]) (by simp [hLl]) ?_)
          | (at_builtin; refine wpList_append_rd rfl _ _ 29 rfl w.heap.size 33 zb 32 32 Tryd.underlying29 hzb hzc (by decide) _ k _ rfl HO5.out _ 1 (bts [LF].flatten) rfl HS5.out ?one ?b1 ?b2 ?b3 ?_))
      case one => exact bts_one _
      case b1 => unfold maxLen; omega
      case b2 => omega
      case b3 => exact HBW5.out.size
      intro v6 w6 hown6 hg6
      have hb6 : Below w.heap.size w w6 := below_append HBW5.out HO5.out hg6 HBW5.out.size
      have HB6 := Lib.hid hb6
      have HO6 : Hid (w6.ownsRow w.heap.size 33 32 v6 (k + 1) (bts ((xs.take (k + 1)).map (leafE KS)).flatten)) := by
        show World.ownsRow _ _ _ _ _ _ _
        rw [HTK.out]
        simpa using hown6
      clear hb6 hown6 hg6
      go_wp2_with fail
      go_roundw
      case rel => exact ⟨k + 1, by go_num, by omega, HO6, HB6.out.size, HB6⟩
      case measure => simp [intOf]; omega
    · have hke : k = xs.length := by omega
      have HF : Hid (IsHs wr u3 (xs.map (leafE KS))) := by
        have h := HO.out
        rw [hke, List.take_length] at h
        refine ⟨?_, leaves32 KS xs⟩
        rw [List.length_map]
        exact Rd.of_owns h
      clear HO
      go_wp2_with fail
      go_ret
      exact ⟨_, rfl, HF.out, HB.out⟩

end Go.Proofs.YtgfnelpfoegdaaaDoor
