/-
  Package facts: add, of, Check at valid versions in order.
-/
import Derived.Test.YtgfnelpfoegdaaaFfC
import Derived.Maps.OwnOps
import Derived.Maps.RangeWalk
namespace Go.Proofs.Ytgfnelpfoegdaaa
open Go.RowKit Go.Maps

theorem kInt : Keyed Try.prog 3 := int_keyed Try.underlying3
theorem int_wf {x : Int} (h : I64 x) : (Lit.int .i64 x).wf = true := WalkArith.wf_i64 (by unfold I64 at h; omega)
abbrev BoolMap (w : World) (b n : Nat) (D : DataW Unit) : Prop := w.ownsMap Try.prog 3 (plainElem Try.prog 4) b n D

theorem grown_seq {w w1 w2 : World} {r : Option Nat} (h : Below w.heap.size w w1) (h2 : w1.grownBy w2 r) : w.grownBy w2 r :=
  ⟨h2.os.trans h.os, h2.tape.trans h.tape, h2.output.trans h.output, Nat.le_trans h.size h2.size, fun k hk hr => (h2.block k (Nat.lt_of_lt_of_le hk h.size) hr).trans (h.block k hk)⟩

theorem range_below' {w w' : World} {B b o : Nat} {cs : List Value} (h : w.rangeAt b o cs) (hb : Below B w w') (hlt : b < B) : w'.rangeAt b o cs := fun j v hv => by
  have h1 := h j v hv
  rw [← h1]
  exact World.cell?_of_block (hb.block b hlt)

set_option maxHeartbeats 2000000 in
theorem add_any (x : Vs) (op0 : Int) (b n : Nat) (D : DataW Unit) (w : World) (hx : FcOk x.f) (h0 : 0 ≤ x.op) (h1 : op0 ≤ x.op) (hn : n < 100000) (hown : BoolMap w b n D) :
    Calls Try.prog 68 #[.map (some b), .agg (vsE x).toArray, .int .i64 op0] w fun e w' => e = .returned (.int .i64 0) ∧ (∃ D', BoolMap w' b (n + 1) D') ∧ w.grownBy w' (some b) := by
  obtain ⟨op, f0, f1, f2, f3, f4, f5⟩ := x
  simp only at h0 h1 hx
  have HVA := Lib.hid (fun w7 => valid_any ⟨f0, f1, f2, f3, f4, f5⟩ w7 hx)
  obtain ⟨P, hP⟩ : ∃ P, P = w.heap.size := ⟨_, rfl⟩
  obtain ⟨W0, hW0⟩ : ∃ W, W = w.alloc (.cells #[.int .i64 op, .bool false, .int .i64 f0, .string f1, .int .i64 f2, .int .i64 f3, .int .i64 f4, .int .i64 f5] 75) := ⟨_, rfl⟩
  have hb0 : Below w.heap.size w W0 := by rw [hW0]; exact (Below.refl _ _).alloc (Nat.le_refl _) _
  have hrow : W0.heap[P]? = some (.cells #[.int .i64 op, .bool false, .int .i64 f0, .string f1, .int .i64 f2, .int .i64 f3, .int .i64 f4, .int .i64 f5] 75 (0, 0)) := by rw [hW0, hP]; exact alloc_new _ _
  have hlt : P < W0.heap.size := (Array.getElem?_eq_some_iff.1 hrow).1
  have c0 : W0.cell? ⟨P, 0, none⟩ = some (.int .i64 op) := by simp [World.cell?, hrow]
  have c1 : W0.cell? ⟨P, 1, none⟩ = some (.bool false) := by simp [World.cell?, hrow]
  have c2 : W0.cell? ⟨P, 2, none⟩ = some (.int .i64 f0) := by simp [World.cell?, hrow]
  have c3 : W0.cell? ⟨P, 3, none⟩ = some (.string f1) := by simp [World.cell?, hrow]
  have c4 : W0.cell? ⟨P, 4, none⟩ = some (.int .i64 f2) := by simp [World.cell?, hrow]
  have c5 : W0.cell? ⟨P, 5, none⟩ = some (.int .i64 f3) := by simp [World.cell?, hrow]
  have c6 : W0.cell? ⟨P, 6, none⟩ = some (.int .i64 f4) := by simp [World.cell?, hrow]
  have c7 : W0.cell? ⟨P, 7, none⟩ = some (.int .i64 f5) := by simp [World.cell?, hrow]
  have HRW := Lib.hid hrow
  have HO0 : Hid (BoolMap W0 b n D) := by show BoolMap _ _ _ _; rw [hW0]; exact hown.alloc _
  have HB0 := Lib.hid hb0
  have HW0 := Lib.hid hW0
  have HP := Lib.hid hP
  have e0 : 0 ≤ f0 := hx.e0
  have e1 : f0 < 65536 := hx.e1
  have HF0 : Hid ((Lit.int .i64 f0).wf = true) := int_wf (by unfold I64; omega)
  have HEQ : Hid ((#[.int .i64 f0, .string f1, .int .i64 f2, .int .i64 f3, .int .i64 f4, .int .i64 f5] : Array Value) = (fcE ⟨f0, f1, f2, f3, f4, f5⟩).toArray) := by show _ = _; rfl
  have h2 : ¬ op < 0 := by omega
  have h3 : ¬ op < op0 := by omega
  have hsm : n < maxLen := by unfold maxLen; omega
  unfold vsE
  simp only
  clear hx hrow hb0 hW0 hP hown
  go_enter Try.func68, Try.ntmps68
  go_wp2_with fail
  rw [← HW0.out]
  refine (HVA.out W0).mono ?_
  rintro e w2 ⟨rfl, hb2⟩
  have hrow2 := (hb2.block P hlt).trans HRW.out
  have d0 : w2.cell? ⟨P, 0, none⟩ = some (.int .i64 op) := by simp [World.cell?, hrow2]
  have d1 : w2.cell? ⟨P, 1, none⟩ = some (.bool false) := by simp [World.cell?, hrow2]
  have HO2 : Hid (BoolMap w2 b n D) := by show BoolMap _ _ _ _; exact HO0.out.kept (row := none) ⟨hb2.os, hb2.tape, hb2.output, hb2.size, fun k hk _ => hb2.block k hk⟩ (by simp)
  have HB2 := Lib.hid (Below.to HB0.out hb2 HB0.out.size)
  rw [HP.out] at d0 d1
  clear hb2 hrow2
  go_wp2_with (at_mapUpdate; refine wpList_mapUpdate_own _ rfl _ _ _ 77 rfl 3 4 kInt Try.underlying77 _ b n D rfl HO2.out hsm _ _ _ rfl rfl (keyOf_int_mk Try.underlying3 HF0.out) _ [] (plainElem_bool Try.underlying4 true) ?_)
  intro w3 hown3 hg3
  have H3 := Lib.hid hown3
  have HG3 := Lib.hid hg3
  clear hown3 hg3
  go_wp2_with fail
  go_ret
  exact ⟨rfl, ⟨_, H3.out⟩, grown_seq HB2.out HG3.out⟩

/-- Versions that were recorded one by one. -/
def VsOk (l : List Vs) : Prop := ∀ i (h : i < l.length), FcOk l[i].f ∧ l[i].op = (i : Int)

set_option maxHeartbeats 2000000 in
theorem of_any (l : List Vs) (v : Value) (w : World) (hv : IsVss w v l) (ho : VsOk l) (hl : l.length ≤ 65536) :
    Calls Try.prog 58 #[v] w fun e w' => (∃ u1 u2, e = .returned (.tuple #[u1, u2, .int .i64 0])) ∧ Below w.heap.size w w' := by
  obtain ⟨a, cap, rfl, hmx, hcap, hc⟩ := hv.open
  have HC := Lib.hid hc
  have HOK := Lib.hid ho
  have HM0 : Hid (BoolMap (w.alloc (.map #[] 0)) w.heap.size 0 (.map [])) := World.ownsMap_made _ _ _ _
  have hmm := @run_makeMap Try.prog
  clear hv hc ho
  go_enter Try.func58, Try.ntmps58
  go_wp2_with fail
  go_loopw [6, 13] (fun o i wr => ∃ (k : Nat) (oo : Int), i = .int .i64 k ∧ o = .int .i64 oo ∧ oo ≤ k ∧ k ≤ l.length ∧ Hid (∃ D, BoolMap wr w.heap.size k D) ∧ w.heap.size ≤ wr.heap.size ∧ Hid (Below w.heap.size w wr)) (fun _ i _ => l.length + 1 - (intOf i).toNat)
  case atStart => exact ⟨0, 0, rfl, rfl, by omega, by omega, ⟨_, HM0.out⟩, by simp, Lib.hid ((Below.refl _ _).alloc (Nat.le_refl _) _)⟩
  case round =>
    obtain ⟨k, oo, rfl, rfl, hoo, hkl, HO, hsw, HB⟩ := hrel
    by_cases hlt : (k : Int) < (l.length : Int)
    · have hkn : k < l.length := by omega
      obtain ⟨bb, off, rfl, hbb, hr0⟩ := HC.out k hkn
      have hr1 := range_below' hr0 HB.out hbb
      obtain ⟨hfo, hop⟩ := HOK.out k hkn
      obtain ⟨x, hx⟩ : ∃ x, l[k] = x := ⟨_, rfl⟩
      rw [hx] at hr1 hfo hop
      have HAD : Hid (∀ w7 b n D, n < 100000 → BoolMap w7 b n D → Calls Try.prog 68 #[.map (some b), .agg (vsE x).toArray, .int .i64 oo] w7 fun e w' => e = .returned (.int .i64 0) ∧ (∃ D', BoolMap w' b (n + 1) D') ∧ w7.grownBy w' (some b)) := fun w7 b n D hn hD =>
        add_any x oo b n D w7 hfo (by omega) (by omega) hn hD
      obtain ⟨op, f0, f1, f2, f3, f4, f5⟩ := x
      simp only at hop
      subst hop
      unfold vsE at hr1 HAD
      simp only at hr1 HAD
      have HR1 := Lib.hid hr1
      obtain ⟨D, hD⟩ := HO.out
      clear hr1 hr0 hx hfo
      go_wp2_with (refine wpList_load_mid rfl 75 _ rfl bb (off + k * 8) rfl [.int .i64 k, .bool false, .int .i64 f0, .string f1, .int .i64 f2, .int .i64 f3, .int .i64 f4, .int .i64 f5] _ HR1.out Try.underlying75 rfl (by rw [infoVs]; rfl) ?_)
      obtain ⟨W1, hW1⟩ : ∃ W, W = wr.alloc (.cells #[.int .i64 k, .bool false, .int .i64 f0, .string f1, .int .i64 f2, .int .i64 f3, .int .i64 f4, .int .i64 f5] 75) := ⟨_, rfl⟩
      obtain ⟨Q, hQ⟩ : ∃ Q, Q = wr.heap.size := ⟨_, rfl⟩
      have hD1 : BoolMap W1 w.heap.size k D := by rw [hW1]; exact hD.alloc _
      have hrow : W1.heap[Q]? = some (.cells #[.int .i64 k, .bool false, .int .i64 f0, .string f1, .int .i64 f2, .int .i64 f3, .int .i64 f4, .int .i64 f5] 75 (0, 0)) := by rw [hW1, hQ]; exact alloc_new _ _
      have hB1 : Below w.heap.size w W1 := by rw [hW1]; exact Below.to HB.out ((Below.refl _ _).alloc (Nat.le_refl _) _) HB.out.size
      rw [← hW1, ← hQ]
      refine (HAD.out W1 w.heap.size k D (by omega) hD1).mono ?_
      rintro e w2 ⟨rfl, ⟨D2, hD2⟩, hg2⟩
      have hwQ : w.heap.size < Q := by rw [hQ]; exact hD.lt
      have hQ1 : Q < W1.heap.size := (Array.getElem?_eq_some_iff.1 hrow).1
      have hrow2 : w2.heap[Q]? = some (.cells #[.int .i64 k, .bool false, .int .i64 f0, .string f1, .int .i64 f2, .int .i64 f3, .int .i64 f4, .int .i64 f5] 75 (0, 0)) := (hg2.block Q hQ1 (by simp; omega)).trans hrow
      have c0 : w2.cell? ⟨Q, 0, none⟩ = some (.int .i64 k) := by simp [World.cell?, hrow2]
      have HB2 := Lib.hid (hB1.grown hg2 hB1.size (fun j hj => by simp only [Option.some.injEq] at hj; omega))
      have HD2 := Lib.hid hD2
      clear hrow hrow2 hB1 hD2 hg2 hD1 hD HAD HR1 hW1 hQ
      go_wp2_with fail
      go_roundw
      case rel => exact ⟨k + 1, k, by go_num, rfl, by omega, by omega, ⟨_, HD2.out⟩, HB2.out.size, HB2⟩
      case measure => simp [intOf]; omega
    · go_wp2_with fail
      go_ret3
      exact ⟨⟨_, _, rfl⟩, HB.out⟩

theorem check_facts (l : List Vs) (v : Value) (w : World) (hv : IsVss w v l) (ho : VsOk l) (hl : l.length ≤ 65536) :
    Calls Try.prog 37 #[v] w fun e w' => e = .returned (.int .i64 0) ∧ Below w.heap.size w w' := by
  have HOF := Lib.hid (of_any l v w hv ho hl)
  clear hv
  go_enter Try.func37, Try.ntmps37
  go_wp2_with fail
  refine HOF.out.mono ?_
  rintro e w2 ⟨⟨u1, u2, rfl⟩, hb2⟩
  have HB2 := Lib.hid hb2
  clear hb2
  go_wp2_with fail
  go_ret
  exact ⟨rfl, HB2.out⟩

end Go.Proofs.Ytgfnelpfoegdaaa
