/-
  Package facts: word and valid.
-/
import Derived.Test.YtgfnelpfoegdaaaFfA
namespace Go.Proofs.Ytgfnelpfoegdaaa
open Go.RowKit

set_option maxHeartbeats 1000000 in
theorem word_any (s : ByteArray) (w : World) (hs : WordB s) : Calls Try.prog 85 #[.string s] w fun e w' => e = .returned (.bool true) ∧ Below w.heap.size w w' := by
  obtain ⟨h1, h2, hb⟩ := hs
  have HB := Lib.hid hb
  obtain ⟨n, hn⟩ : ∃ n, s.size = n := ⟨_, rfl⟩
  clear hb
  go_enter Try.func85, Try.ntmps85
  go_wp2_with fail
  go_loopw [8] (fun i wr => ∃ k : Nat, i = .int .i64 k ∧ k ≤ s.size ∧ Hid (Below w.heap.size w wr)) (fun i _ => s.size + 1 - (intOf i).toNat)
  case atStart => exact ⟨0, rfl, by omega, Lib.hid (Below.refl _ _)⟩
  case round =>
    obtain ⟨k, rfl, hk, HW⟩ := hrel
    by_cases hlt : (k : Int) < (s.size : Int)
    · have hkn : k < s.size := by omega
      obtain ⟨hc1, hc2⟩ := HB.out k hkn
      obtain ⟨c, hcc⟩ : ∃ c : Nat, (s[k]).toNat = c := ⟨_, rfl⟩
      rw [hcc] at hc1 hc2
      have hidx : ∀ W : World, (Instr.index 9 (.string s) (.int .i64 k)).run Try.prog W = .ok (.int .u8 c) W := fun W => by
        rw [run_index_string W 9 s .i64 k Try.underlying9, dif_pos ⟨by omega, by omega⟩]
        simp only [Int.toNat_natCast, hcc]
      have d1 : decide ((c : Int) ≥ 97) = true := by simp; omega
      have d2 : decide ((c : Int) ≤ 122) = true := by simp; omega
      have d3 : decide ((c : Int) ≥ 48) = true := by simp; omega
      have d4 : decide ((c : Int) ≤ 57) = false := by simp; omega
      clear hcc HB hc1 hc2
      go_wp2_with fail
      go_region
      all_goals go_wp2_with fail
      exact ⟨⟨k + 1, by go_num, by omega, Lib.hid HW.out.drew⟩, by simp [intOf]; omega⟩
    · have hne : ¬ s.toList = [] := by
        rw [ByteArray.toList_eq]
        intro h
        have h3 : s.data.toList.length = 0 := by rw [h]; rfl
        have h4 : s.size = s.data.size := rfl
        rw [Array.length_toList] at h3
        omega
      have hie : s.toList.isEmpty = false := by
        cases hq : s.toList with
        | nil => exact absurd hq hne
        | cons a b => rfl
      clear hne
      have h12 : ((s.size : Nat) : Int) ≤ 12 := by omega
      have hn12 : n ≤ 12 := by omega
      have hd12 : decide ((n : Int) ≤ 12) = true := by simp; omega
      go_wp2_with fail
      go_ret
      exact ⟨rfl, HW.out⟩

set_option maxHeartbeats 1000000 in
theorem valid_any (x : Fc) (w : World) (h : FcOk x) : Calls Try.prog 74 #[.agg (fcE x).toArray] w fun e w' => e = .returned (.bool true) ∧ Below w.heap.size w w' := by
  have hb0 : Below w.heap.size w (w.alloc (.cells (fcE x).toArray 72)) := (Below.refl _ _).alloc (Nat.le_refl _) _
  have H1 := Lib.hid (fun w7 => fin_any x.ent 65536 w7 h.e0 h.e1)
  have H2 := Lib.hid (fun w7 => word_any x.kind w7 h.k)
  have H3 := Lib.hid (fun w7 => fin_any x.day 3652059 w7 h.d0 h.d1)
  have H4 := Lib.hid (fun w7 => fin_any x.by_ 64 w7 h.b0 h.b1)
  have H5 := Lib.hid (fun w7 => fin_any x.to_ 64 w7 h.t0 h.t1)
  have d1 : decide (x.amt ≥ -2147483647) = true := by have := h.a0; simp; omega
  have d2 : decide (x.amt ≤ 2147483647) = true := by have := h.a1; simp; omega
  obtain ⟨P, hP⟩ : ∃ P, P = w.heap.size := ⟨_, rfl⟩
  obtain ⟨W0, hW0⟩ : ∃ W, W = w.alloc (.cells (fcE x).toArray 72) := ⟨_, rfl⟩
  have hrow : W0.heap[P]? = some (.cells (fcE x).toArray 72 (0, 0)) := by rw [hW0, hP]; exact alloc_new _ _
  have hlt : P < W0.heap.size := (Array.getElem?_eq_some_iff.1 hrow).1
  have hcells : ∀ w', Below W0.heap.size W0 w' → w'.cell? ⟨P, 1, none⟩ = some (.string x.kind) ∧ w'.cell? ⟨P, 2, none⟩ = some (.int .i64 x.day) ∧ w'.cell? ⟨P, 3, none⟩ = some (.int .i64 x.by_) ∧ w'.cell? ⟨P, 4, none⟩ = some (.int .i64 x.to_) ∧ w'.cell? ⟨P, 5, none⟩ = some (.int .i64 x.amt) := fun w' hb => by
    have h2 := (hb.block P hlt).trans hrow
    refine ⟨?_, ?_, ?_, ?_, ?_⟩ <;> simp [World.cell?, h2, fcE]
  rw [← hW0] at hb0
  have HB0 := Lib.hid hb0
  have HC := Lib.hid hcells
  have HW0 := Lib.hid hW0
  have HP := Lib.hid hP
  obtain ⟨c1, -, -, -, -⟩ := hcells W0 (Below.refl _ _)
  unfold fcE at *
  clear h hb0 hcells hW0 hP hrow
  go_enter Try.func74, Try.ntmps74
  go_wp2_with fail
  rw [← HW0.out, ← HP.out]
  refine (H1.out _).mono ?_
  rintro e w1 ⟨rfl, h9⟩
  obtain rfl := h9.symm
  go_wp2_with fail
  refine (H2.out _).mono ?_
  rintro e w2 ⟨rfl, hb2⟩
  obtain ⟨-, c2, c3, c4, c5⟩ := HC.out w2 hb2
  have HB2 := Lib.hid hb2
  clear hb2
  go_wp2_with fail
  refine (H3.out _).mono ?_
  rintro e w3 ⟨rfl, h9⟩
  obtain rfl := h9.symm
  go_wp2_with fail
  refine (H4.out _).mono ?_
  rintro e w3 ⟨rfl, h9⟩
  obtain rfl := h9.symm
  go_wp2_with fail
  refine (H5.out _).mono ?_
  rintro e w3 ⟨rfl, h9⟩
  obtain rfl := h9.symm
  go_wp2_with fail
  go_ret
  exact ⟨rfl, Below.to HB0.out HB2.out HB0.out.size⟩

end Go.Proofs.Ytgfnelpfoegdaaa
