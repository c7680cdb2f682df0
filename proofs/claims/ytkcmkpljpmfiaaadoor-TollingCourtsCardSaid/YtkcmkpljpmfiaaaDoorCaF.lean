/-
  The reference of calendars: Calendar makes a valid calendar; its rules and closures are the call's own.
-/
import Derived.Test.YtkcmkpljpmfiaaaDoorCaE
import Derived.Test.YtkcmkpljpmfiaaaDoorCaA
namespace Go.Proofs.YtkcmkpljpmfiaaaDoor
open Go.RowKit

theorem infoHd : (Tryd.prog.info? 48).map (fun i => (i.zero, i.size, i.bytes)) = some (some (.agg #[.int .i64 0, .int .i64 0, .int .i64 0, .int .i64 0, .int .i64 0, .int .i64 0, .int .i64 0, .int .i64 0, .int .i64 0]), 9, 72) := by kernel_rfl
theorem infoClo : (Tryd.prog.info? 34).map (fun i => (i.zero, i.size, i.bytes)) = some (some (.agg #[.int .i64 0, .int .i64 0, .int .i64 0]), 3, 24) := by kernel_rfl
theorem infoCal : (Tryd.prog.info? 30).map (·.size) = some 12 := by kernel_rfl
theorem hoE_one (h : Hol) : ∀ u ∈ hoE h, u.oneCell' = true := fun u hu => by
  simp [hoE] at hu
  rcases hu with rfl | rfl | rfl | rfl | rfl | rfl | rfl | rfl | rfl <;> rfl
theorem clE_one (h : Clo) : ∀ u ∈ clE h, u.oneCell' = true := fun u hu => by
  simp [clE] at hu
  rcases hu with rfl | rfl | rfl <;> rfl
/-- The cells of a calendar that is being made. -/
def calC (b0 b5 b6 : Bool) (hv cv : Value) (z : Int) (sv : Value) (hr : Int) : Array Value := #[.bool b0, .bool false, .bool false, .bool false, .bool false, .bool b5, .bool b6, hv, cv, .int .i64 z, sv, .int .i64 hr]
/-- What Calendar makes: closures near 2026. -/
def CloIn (c : Clo) : Prop := 739616 ≤ c.f ∧ c.f ≤ c.u ∧ c.u ≤ 739740 ∧ c.k ≤ 739745

/-- What Calendar makes. -/
def CalMade (w w' : World) (v : Value) : Prop := ∃ b0 b5 b6 hv cv z sa sn sc hr, v = .agg (calC b0 b5 b6 hv cv z (.slice sa sn sc) hr) ∧ ∃ (hs : List Hol) (cl : List Clo), Hid ((∀ h ∈ hs, HolIn h) ∧ hs.length ≤ 3) ∧ Hid ((∀ c ∈ cl, CloIn c) ∧ cl.length ≤ 3) ∧ IsHos w' hv hs ∧ IsCls w' cv cl ∧ Below w.heap.size w w'
theorem IsInts.drop {w : World} {b o n cap : Nat} {xs : List Int} (h : IsInts w (.slice (some ⟨b, o, none⟩) n cap) xs) (k : Nat) (hk : k ≤ xs.length) : IsInts w (.slice (some ⟨b, o + k, none⟩) (n - k) (cap - k)) (xs.drop k) := by
  obtain ⟨a', cap', e, hm, hn, hc⟩ := h.open
  simp only [Value.slice.injEq] at e
  obtain ⟨rfl, rfl, rfl⟩ := e
  have hl : (xs.drop k).length = xs.length - k := List.length_drop
  refine ⟨by simp [ints], by omega, some ⟨b, o + k, none⟩, cap - k, by rw [hl], by omega, fun j u hu => ⟨b, o + k, rfl, ?_⟩⟩
  have hj : j < (xs.drop k).length := by
    have := (List.getElem?_eq_some_iff.1 hu).1
    simpa [ints] using this
  obtain ⟨b', o', e', hcell⟩ := hc (k + j) (by omega)
  cases e'
  have hu2 : u = .int .i64 xs[k + j] := by
    have h2 : (ints (xs.drop k))[j]? = some (.int .i64 xs[k + j]) := by
      simp only [ints, List.getElem?_map, List.getElem?_drop]
      rw [List.getElem?_eq_getElem (by omega)]
      rfl
    rw [h2] at hu
    exact (Option.some.inj hu).symm
  rw [hu2, show o + k + j = o + (k + j) by omega]
  exact hcell

set_option maxHeartbeats 4000000 in
set_option maxRecDepth 100000 in
theorem calendar_any (l : List Int) (v : Value) (w : World) (hx : IsInts w v l) (hl : ∀ x ∈ l, I64 x) :
    Calls Tryd.prog 4 #[v] w fun e w' => ∃ v', e = .returned v' ∧ CalMade w w' v' := by
  have HX := Lib.hid hx
  have HPK : Hid (∀ (i : Nat) (most : Int) W, IsInts W v l → i ≤ 1000000 → 0 < most → most ≤ 1000000000 → Calls Tryd.prog 11 #[v, .int .i64 i, .int .i64 most] W fun e w' => e = .returned (.int .i64 (pickF l i most)) ∧ W = w') := fun i most W h h1 h2 h3 => pick_any l v i most W h hl h1 h2 h3
  have HZO := Lib.hid (fun (u : Value) (l' : List Int) (W : World) (h : IsInts W u l') (h2 : ∀ x ∈ l', x ∈ l) => zone_any l' u W h (fun x hx => hl x (h2 x hx)))
  obtain ⟨a, cap, rfl, hm, -, -⟩ := hx.open
  unfold maxLen at hm
  clear hx hl
  obtain ⟨P, hP⟩ : ∃ P, P = w.heap.size := ⟨_, rfl⟩
  obtain ⟨k0, hk0⟩ : ∃ k0 : Nat, pickF l 0 4 = k0 := ⟨_, (Int.toNat_of_nonneg (pickF_in l 0 4 (by omega)).1).symm⟩
  have hk1 : k0 < 4 := by have := (pickF_in l 0 4 (by omega)).2; omega
  have HP0 := Lib.hid (HPK.out 0 4 ((w.alloc (.cells (calC false false false (.slice none 0 0) (.slice none 0 0) 0 (.slice none 0 0) 0) 30)).alloc (.cells #[.int .i64 1439, .int .i64 1020, .int .i64 0, .int .i64 720] 3)) (HX.out.below (((Below.refl _ _).alloc (Nat.le_refl _) _).alloc (by simp) _)) (by omega) (by omega) (by omega))
  rw [hk0] at HP0
  obtain ⟨hr, hE⟩ : ∃ hr : Int, (#[.int .i64 1439, .int .i64 1020, .int .i64 0, .int .i64 720] : Array Value)[k0]? = some (.int .i64 hr) := by
    rcases (by omega : k0 = 0 ∨ k0 = 1 ∨ k0 = 2 ∨ k0 = 3) with rfl | rfl | rfl | rfl <;> exact ⟨_, rfl⟩
  obtain ⟨W1, hW1⟩ : ∃ W1, W1 = (w.alloc (.cells #[.bool false, .bool false, .bool false, .bool false, .bool false, .bool false, .bool false, .slice none 0 0, .slice none 0 0, .int .i64 0, .slice none 0 0, .int .i64 0] 30)).alloc (.cells #[.int .i64 1439, .int .i64 1020, .int .i64 0, .int .i64 720] 3) := ⟨_, rfl⟩
  have hb1 : Below P w W1 := by rw [hW1, hP]; exact ((Below.refl _ _).alloc (Nat.le_refl _) _).alloc (by simp) _
  have hs1 : W1.heap.size = P + 2 := by rw [hW1, hP]; simp
  have q0 : W1.heap[P]? = some (.cells #[.bool false, .bool false, .bool false, .bool false, .bool false, .bool false, .bool false, .slice none 0 0, .slice none 0 0, .int .i64 0, .slice none 0 0, .int .i64 0] 30 (0, 0)) := by rw [hW1, hP]; exact (Below.heap_alloc _ _ _ (by simp)).trans (heap_alloc_new w _)
  have c4 : W1.cell? ⟨P + 1, k0, none⟩ = some (.int .i64 hr) := by
    have h := cells_alloc (w.alloc (.cells #[.bool false, .bool false, .bool false, .bool false, .bool false, .bool false, .bool false, .slice none 0 0, .slice none 0 0, .int .i64 0, .slice none 0 0, .int .i64 0] 30)) #[.int .i64 1439, .int .i64 1020, .int .i64 0, .int .i64 720] 3 k0
    rw [World.size_alloc, ← hW1, ← hP] at h
    exact h.trans hE
  have hk1I : (k0 : Int) < 4 := by omega
  have HX1 := Lib.hid (HX.out.below (hP ▸ hb1))
  have HW1 := Lib.hid hW1
  have HPP := Lib.hid hP
  have HB1 := Lib.hid hb1
  have HS1 := Lib.hid hs1
  have HQ0 := Lib.hid q0
  clear hW1 hP hb1 hs1 q0 hk0 hE
  obtain ⟨x, hx1⟩ : ∃ x, pickF l 1 8 = x := ⟨_, rfl⟩
  have HPX : Hid (∀ o, Calls Tryd.prog 11 #[.slice a l.length cap, .int .i64 1, .int .i64 8] (W1.alloc o) fun e w' => e = .returned (.int .i64 x) ∧ W1.alloc o = w') := fun o => by
    rw [← hx1]; exact HPK.out 1 8 _ (HX1.out.below ((Below.refl _ _).alloc (Nat.le_refl _) _)) (by omega) (by omega) (by omega)
  clear hx1
  go_enter Tryd.func4, Tryd.ntmps4
  go_wp2_with fail
  unfold calC at HP0
  refine HP0.out.mono ?_
  rintro e w' ⟨rfl, rfl⟩
  rw [← HW1.out, ← HPP.out]
  go_wp2_with fail
  refine (HPX.out _).mono ?_
  rintro e w' ⟨rfl, rfl⟩
  obtain ⟨b0, hb0⟩ : ∃ b, (x == 3) = b := ⟨_, rfl⟩
  obtain ⟨b5, hb5⟩ : ∃ b, (x != 1) = b := ⟨_, rfl⟩
  obtain ⟨b6, hb6⟩ : ∃ b, (x != 2) = b := ⟨_, rfl⟩
  obtain ⟨Q, hQ⟩ : ∃ Q, Q = W1.heap.size := ⟨_, rfl⟩
  have hQP : Q = P + 2 := by rw [hQ]; exact HS1.out
  obtain ⟨W2, hW2⟩ : ∃ W2, W2 = W1.alloc (.cells #[.bool b0, .bool false, .bool false, .bool false, .bool false, .bool b5, .bool b6, .slice none 0 0, .slice none 0 0, .int .i64 0, .slice none 0 0, .int .i64 hr] 30) := ⟨_, rfl⟩
  have HW2 := Lib.hid hW2
  have HQ := Lib.hid hQ
  have HB2 : Hid (Below P w W2) := by show Below _ _ _; rw [hW2]; exact Below.to HB1.out ((Below.refl _ _).alloc (Nat.le_refl _) _) (by rw [HS1.out]; omega)
  have HS2 : Hid (P + 3 ≤ W2.heap.size) := by show _ ≤ _; rw [hW2, World.size_alloc, HS1.out]; omega
  have HR2 : Hid (W2.heap[P + 2]? = some (.cells #[.bool b0, .bool false, .bool false, .bool false, .bool false, .bool b5, .bool b6, .slice none 0 0, .slice none 0 0, .int .i64 0, .slice none 0 0, .int .i64 hr] 30 (0, 0))) := by
    show _ = _
    have h := heap_alloc_new W1 (.cells #[.bool b0, .bool false, .bool false, .bool false, .bool false, .bool b5, .bool b6, .slice none 0 0, .slice none 0 0, .int .i64 0, .slice none 0 0, .int .i64 hr] 30)
    rw [← hW2, HS1.out] at h
    exact h
  have HZ2 : Hid (W2.heap[P]? = some (.cells #[.bool false, .bool false, .bool false, .bool false, .bool false, .bool false, .bool false, .slice none 0 0, .slice none 0 0, .int .i64 0, .slice none 0 0, .int .i64 0] 30 (0, 0))) := by
    show _ = _
    rw [hW2]
    exact (Below.heap_alloc _ _ _ (by rw [HS1.out]; omega)).trans HQ0.out
  have HQP := Lib.hid hQP
  clear hW2 hQ hQP HQ0 HPX HP0
  go_wp2_with fail
  rw [← HW2.out, ← HQ.out, HQP.out]
  clear hb0 hb5 hb6
  go_loopw [5] (fun i wr => ∃ (j : Nat) (hv : Value) (hs : List Hol), i = .int .i64 j ∧ j ≤ 3 ∧ hs.length = j ∧ Hid (∀ h ∈ hs, HolIn h) ∧ Hid (wr.ownsRow (P + 3) 48 9 hv j (enC hoE hs)) ∧ Hid (wr.heap[P]? = some (.cells #[.bool false, .bool false, .bool false, .bool false, .bool false, .bool false, .bool false, .slice none 0 0, .slice none 0 0, .int .i64 0, .slice none 0 0, .int .i64 0] 30 (0, 0))) ∧ Hid (wr.heap[P + 2]? = some (.cells #[.bool b0, .bool false, .bool false, .bool false, .bool false, .bool b5, .bool b6, hv, .slice none 0 0, .int .i64 0, .slice none 0 0, .int .i64 hr] 30 (0, 0))) ∧ Hid (Below P w wr) ∧ Hid (P + 3 ≤ wr.heap.size)) (fun i _ => 10 - (intOf i).toNat)
  case atStart => exact ⟨0, _, [], rfl, by omega, rfl, Lib.hid (fun h hh => by cases hh), Lib.hid (World.ownsRow_nil _ _ _ _), HZ2, HR2, HB2, HS2⟩
  case round =>
    obtain ⟨j, hv, hs, rfl, hj, hhs, HHI, HO, H0, H2, HB, HS⟩ := hrel
    obtain ⟨n0, hn0⟩ : ∃ n0, pickF l 2 4 = n0 := ⟨_, rfl⟩
    have hn1 := pickF_in l 2 4 (by omega)
    rw [hn0] at hn1
    have HXR := Lib.hid (HX.out.below (HPP.out ▸ HB.out))
    have HP2 := Lib.hid (HPK.out 2 4 wr HXR.out (by omega) (by omega) (by omega))
    rw [hn0] at HP2
    by_cases hlt : (j : Int) < n0
    · obtain ⟨A, hA⟩ : ∃ A, pickF l (3 + 2 * j) 1000000 = A := ⟨_, rfl⟩
      obtain ⟨B, hB⟩ : ∃ B, pickF l (4 + 2 * j) 1000000 = B := ⟨_, rfl⟩
      have hA1 := pickF_in l (3 + 2 * j) 1000000 (by omega)
      have hB1 := pickF_in l (4 + 2 * j) 1000000 (by omega)
      have HP3 := Lib.hid (HPK.out (3 + 2 * j) 1000000 wr HXR.out (by omega) (by omega) (by omega))
      have HP4 := Lib.hid (HPK.out (4 + 2 * j) 1000000 wr HXR.out (by omega) (by omega) (by omega))
      rw [hA] at HP3 hA1
      rw [hB] at HP4 hB1
      clear hA hB hn0
      obtain ⟨hA0, hA1⟩ := hA1
      obtain ⟨hB0, hB1⟩ := hB1
      go_wp2_with fail
      refine HP2.out.mono ?_
      rintro e w' ⟨rfl, rfl⟩
      go_wp2_with fail
      refine HP3.out.mono ?_
      rintro e w' ⟨rfl, rfl⟩
      go_wp2_with fail
      refine HP4.out.mono ?_
      rintro e w' ⟨rfl, rfl⟩
      obtain ⟨a3, c3, rfl, hjc, hjm⟩ := owns_slice HO.out
      have E7 : Hid (∀ X, (wr.alloc X).cell? ⟨P + 2, 7, none⟩ = some (.slice a3 j c3)) := fun X => by
        have h : wr.cell? ⟨P + 2, 7, none⟩ = some (.slice a3 j c3) := by simp [World.cell?, H2.out]
        exact (((Below.refl _ _).alloc (Nat.le_refl _) X).cell (p := ⟨P + 2, 7, none⟩) (World.block_lt_of_cell? _ _ h)).trans h
      have HN1 : Hid (j + 1 ≤ maxLen) := (by show _ ≤ _; unfold maxLen; omega)
      have HN2 : Hid ((j + 1) * 72 ≤ 140737488355328) := (by show _ ≤ _; omega)
      have HFIN : Hid (∀ (W w8 : World) (v8 : Value) (h : Hol), Below wr.heap.size wr W → HolIn h → w8.ownsRow (P + 3) 48 9 v8 (j + 1) (enC hoE hs ++ hoE h) → W.grownBy w8 (Value.slice a3 j c3).ownBlock →
          (w8.cell? ⟨P + 2, 7, none⟩ = some (.slice a3 j c3) ∧ w8.frozen? ⟨P + 2, 7, none⟩ = false) ∧ Hid (∀ h' ∈ hs ++ [h], HolIn h') ∧ Hid ((w8.setCell ⟨P + 2, 7, none⟩ v8).ownsRow (P + 3) 48 9 v8 (j + 1) (enC hoE (hs ++ [h]))) ∧ Hid ((w8.setCell ⟨P + 2, 7, none⟩ v8).heap[P]? = some (.cells #[.bool false, .bool false, .bool false, .bool false, .bool false, .bool false, .bool false, .slice none 0 0, .slice none 0 0, .int .i64 0, .slice none 0 0, .int .i64 0] 30 (0, 0))) ∧ Hid ((w8.setCell ⟨P + 2, 7, none⟩ v8).heap[P + 2]? = some (.cells #[.bool b0, .bool false, .bool false, .bool false, .bool false, .bool b5, .bool b6, v8, .slice none 0 0, .int .i64 0, .slice none 0 0, .int .i64 hr] 30 (0, 0))) ∧ Hid (Below P w (w8.setCell ⟨P + 2, 7, none⟩ v8)) ∧ Hid (P + 3 ≤ (w8.setCell ⟨P + 2, 7, none⟩ v8).heap.size)) := fun W w8 v8 h hbW hh hv8 hg8 => by
        have hsz := HS.out
        have hs8 := hbW.size
        have hne : ∀ k, k < P + 3 → some k ≠ (Value.slice a3 j c3).ownBlock := fun k hk hb => by
          have := (HO.out.lt k hb.symm).1
          omega
        have r0 := (hg8.block P (by omega) (hne P (by omega))).trans ((hbW.block P (by omega)).trans H0.out)
        have r2 := (hg8.block (P + 2) (by omega) (hne (P + 2) (by omega))).trans ((hbW.block (P + 2) (by omega)).trans H2.out)
        have hb8 := below_append (Below.to HB.out hbW (by omega)) (owns_mono (owns_below HO.out hbW) (Nat.le_add_right P 3)) hg8 (by omega)
        refine ⟨⟨by simp [World.cell?, r2], by simp [World.frozen?, r2]⟩, ?_, ?_, (row_other (by omega) _).trans r0, row_set r2 _, hb8.setCell (p := ⟨P + 2, 7, none⟩) (Nat.le_add_right P 2) _, ?_⟩
        · intro h' hm
          rcases List.mem_append.1 hm with h1 | h1
          · exact HHI.out h' h1
          · rw [List.mem_singleton] at h1; rw [h1]; exact hh
        · show World.ownsRow _ _ _ _ _ _ _
          rw [enC_append, enC_single]
          exact owns_setCell hv8 (by show P + 2 < P + 3; omega) _
        · have h9 := hg8.size
          show _ ≤ _
          simp only [World.setCell, Array.size_modify]
          omega
      rcases (by omega : A % 4 = 0 ∨ A % 4 = 1 ∨ A % 4 = 2 ∨ A % 4 = 3) with hk | hk | hk | hk
      · have HHL : Hid (HolIn ⟨1, 1 + A / 4 % 4, 1 + B / 3 % 31, 0, 0, 0, B % 3⟩) := by constructor <;> (try intro hq) <;> simp_all <;> omega
        have HBL : Hid (Below wr.heap.size wr ((wr.alloc (.cells #[.int .i64 1, .int .i64 (1 + A / 4 % 4), .int .i64 (1 + B / 3 % 31), .int .i64 0, .int .i64 0, .int .i64 0, .int .i64 (B % 3), .int .i64 1, .int .i64 9999] 48)).alloc (.cells #[.int .i64 1, .int .i64 (1 + A / 4 % 4), .int .i64 (1 + B / 3 % 31), .int .i64 0, .int .i64 0, .int .i64 0, .int .i64 (B % 3), .int .i64 1, .int .i64 9999] 48))) := ((Below.refl _ _).alloc (Nat.le_refl _) _).alloc (by simp) _
        have HRA : Hid (Rd ((wr.alloc (.cells #[.int .i64 1, .int .i64 (1 + A / 4 % 4), .int .i64 (1 + B / 3 % 31), .int .i64 0, .int .i64 0, .int .i64 0, .int .i64 (B % 3), .int .i64 1, .int .i64 9999] 48)).alloc (.cells #[.int .i64 1, .int .i64 (1 + A / 4 % 4), .int .i64 (1 + B / 3 % 31), .int .i64 0, .int .i64 0, .int .i64 0, .int .i64 (B % 3), .int .i64 1, .int .i64 9999] 48)) (.slice (some ⟨wr.heap.size + 1, 0, none⟩) 1 1) 9 1 (hoE ⟨1, 1 + A / 4 % 4, 1 + B / 3 % 31, 0, 0, 0, B % 3⟩)) := by
          have h := Rd.lit (wr.alloc (.cells #[.int .i64 1, .int .i64 (1 + A / 4 % 4), .int .i64 (1 + B / 3 % 31), .int .i64 0, .int .i64 0, .int .i64 0, .int .i64 (B % 3), .int .i64 1, .int .i64 9999] 48)) #[.int .i64 1, .int .i64 (1 + A / 4 % 4), .int .i64 (1 + B / 3 % 31), .int .i64 0, .int .i64 0, .int .i64 0, .int .i64 (B % 3), .int .i64 1, .int .i64 9999] 48 9 1 rfl (by unfold maxLen; omega)
          rw [World.size_alloc] at h
          exact h
        have e7 : (wr.alloc (.cells #[.int .i64 1, .int .i64 (1 + A / 4 % 4), .int .i64 (1 + B / 3 % 31), .int .i64 0, .int .i64 0, .int .i64 0, .int .i64 (B % 3), .int .i64 1, .int .i64 9999] 48)).cell? ⟨P + 2, 7, none⟩ = some (.slice a3 j c3) := E7.out _
        go_wp2_with (at_builtin; go_must (refine wpList_append_rd rfl _ _ 24 rfl (P + 3) 48 _ 9 72 Tryd.underlying24 infoHd rfl (by decide) (.slice a3 j c3) j (enC hoE hs) rfl (owns_below HO.out HBL.out) _ 1 (hoE ⟨1, 1 + A / 4 % 4, 1 + B / 3 % 31, 0, 0, 0, B % 3⟩) rfl HRA.out (hoE_one _) HN1.out HN2.out ?b3 ?_))
        case b3 => exact Nat.le_trans HS.out HBL.out.size
        intro v8 w8 hv8 hg8
        have HH := Lib.hid (HFIN.out _ w8 v8 ⟨1, 1 + A / 4 % 4, 1 + B / 3 % 31, 0, 0, 0, B % 3⟩ HBL.out HHL.out hv8 hg8)
        obtain ⟨a8, c8, rfl, -, -⟩ := owns_slice hv8
        obtain ⟨z1, z2⟩ := HH.out.1
        clear hv8 hg8 HRA HBL HFIN
        go_wp2_with fail
        go_roundw
        case rel => exact ⟨j + 1, _, hs ++ [⟨1, 1 + A / 4 % 4, 1 + B / 3 % 31, 0, 0, 0, B % 3⟩], by go_num, by omega, by rw [List.length_append, List.length_singleton]; omega, HH.out.2⟩
        case measure => simp [intOf]; omega
      · have HHL : Hid (HolIn ⟨2, 1 + A / 4 % 4, 0, B / 3 % 7, 1 + B / 21 % 5, 0, 0⟩) := by constructor <;> (try intro hq) <;> simp_all <;> omega
        have HBL : Hid (Below wr.heap.size wr ((wr.alloc (.cells #[.int .i64 2, .int .i64 (1 + A / 4 % 4), .int .i64 0, .int .i64 (B / 3 % 7), .int .i64 (1 + B / 21 % 5), .int .i64 0, .int .i64 0, .int .i64 1, .int .i64 9999] 48)).alloc (.cells #[.int .i64 2, .int .i64 (1 + A / 4 % 4), .int .i64 0, .int .i64 (B / 3 % 7), .int .i64 (1 + B / 21 % 5), .int .i64 0, .int .i64 0, .int .i64 1, .int .i64 9999] 48))) := ((Below.refl _ _).alloc (Nat.le_refl _) _).alloc (by simp) _
        have HRA : Hid (Rd ((wr.alloc (.cells #[.int .i64 2, .int .i64 (1 + A / 4 % 4), .int .i64 0, .int .i64 (B / 3 % 7), .int .i64 (1 + B / 21 % 5), .int .i64 0, .int .i64 0, .int .i64 1, .int .i64 9999] 48)).alloc (.cells #[.int .i64 2, .int .i64 (1 + A / 4 % 4), .int .i64 0, .int .i64 (B / 3 % 7), .int .i64 (1 + B / 21 % 5), .int .i64 0, .int .i64 0, .int .i64 1, .int .i64 9999] 48)) (.slice (some ⟨wr.heap.size + 1, 0, none⟩) 1 1) 9 1 (hoE ⟨2, 1 + A / 4 % 4, 0, B / 3 % 7, 1 + B / 21 % 5, 0, 0⟩)) := by
          have h := Rd.lit (wr.alloc (.cells #[.int .i64 2, .int .i64 (1 + A / 4 % 4), .int .i64 0, .int .i64 (B / 3 % 7), .int .i64 (1 + B / 21 % 5), .int .i64 0, .int .i64 0, .int .i64 1, .int .i64 9999] 48)) #[.int .i64 2, .int .i64 (1 + A / 4 % 4), .int .i64 0, .int .i64 (B / 3 % 7), .int .i64 (1 + B / 21 % 5), .int .i64 0, .int .i64 0, .int .i64 1, .int .i64 9999] 48 9 1 rfl (by unfold maxLen; omega)
          rw [World.size_alloc] at h
          exact h
        have e7 : (wr.alloc (.cells #[.int .i64 2, .int .i64 (1 + A / 4 % 4), .int .i64 0, .int .i64 (B / 3 % 7), .int .i64 (1 + B / 21 % 5), .int .i64 0, .int .i64 0, .int .i64 1, .int .i64 9999] 48)).cell? ⟨P + 2, 7, none⟩ = some (.slice a3 j c3) := E7.out _
        go_wp2_with (at_builtin; go_must (refine wpList_append_rd rfl _ _ 24 rfl (P + 3) 48 _ 9 72 Tryd.underlying24 infoHd rfl (by decide) (.slice a3 j c3) j (enC hoE hs) rfl (owns_below HO.out HBL.out) _ 1 (hoE ⟨2, 1 + A / 4 % 4, 0, B / 3 % 7, 1 + B / 21 % 5, 0, 0⟩) rfl HRA.out (hoE_one _) HN1.out HN2.out ?b3 ?_))
        case b3 => exact Nat.le_trans HS.out HBL.out.size
        intro v8 w8 hv8 hg8
        have HH := Lib.hid (HFIN.out _ w8 v8 ⟨2, 1 + A / 4 % 4, 0, B / 3 % 7, 1 + B / 21 % 5, 0, 0⟩ HBL.out HHL.out hv8 hg8)
        obtain ⟨a8, c8, rfl, -, -⟩ := owns_slice hv8
        obtain ⟨z1, z2⟩ := HH.out.1
        clear hv8 hg8 HRA HBL HFIN
        go_wp2_with fail
        go_roundw
        case rel => exact ⟨j + 1, _, hs ++ [⟨2, 1 + A / 4 % 4, 0, B / 3 % 7, 1 + B / 21 % 5, 0, 0⟩], by go_num, by omega, by rw [List.length_append, List.length_singleton]; omega, HH.out.2⟩
        case measure => simp [intOf]; omega
      · have HHL : Hid (HolIn ⟨3, 1 + A / 4 % 4, 0, B / 3 % 7, 0, 0, 0⟩) := by constructor <;> (try intro hq) <;> simp_all <;> omega
        have HBL : Hid (Below wr.heap.size wr ((wr.alloc (.cells #[.int .i64 3, .int .i64 (1 + A / 4 % 4), .int .i64 0, .int .i64 (B / 3 % 7), .int .i64 0, .int .i64 0, .int .i64 0, .int .i64 1, .int .i64 9999] 48)).alloc (.cells #[.int .i64 3, .int .i64 (1 + A / 4 % 4), .int .i64 0, .int .i64 (B / 3 % 7), .int .i64 0, .int .i64 0, .int .i64 0, .int .i64 1, .int .i64 9999] 48))) := ((Below.refl _ _).alloc (Nat.le_refl _) _).alloc (by simp) _
        have HRA : Hid (Rd ((wr.alloc (.cells #[.int .i64 3, .int .i64 (1 + A / 4 % 4), .int .i64 0, .int .i64 (B / 3 % 7), .int .i64 0, .int .i64 0, .int .i64 0, .int .i64 1, .int .i64 9999] 48)).alloc (.cells #[.int .i64 3, .int .i64 (1 + A / 4 % 4), .int .i64 0, .int .i64 (B / 3 % 7), .int .i64 0, .int .i64 0, .int .i64 0, .int .i64 1, .int .i64 9999] 48)) (.slice (some ⟨wr.heap.size + 1, 0, none⟩) 1 1) 9 1 (hoE ⟨3, 1 + A / 4 % 4, 0, B / 3 % 7, 0, 0, 0⟩)) := by
          have h := Rd.lit (wr.alloc (.cells #[.int .i64 3, .int .i64 (1 + A / 4 % 4), .int .i64 0, .int .i64 (B / 3 % 7), .int .i64 0, .int .i64 0, .int .i64 0, .int .i64 1, .int .i64 9999] 48)) #[.int .i64 3, .int .i64 (1 + A / 4 % 4), .int .i64 0, .int .i64 (B / 3 % 7), .int .i64 0, .int .i64 0, .int .i64 0, .int .i64 1, .int .i64 9999] 48 9 1 rfl (by unfold maxLen; omega)
          rw [World.size_alloc] at h
          exact h
        have e7 : (wr.alloc (.cells #[.int .i64 3, .int .i64 (1 + A / 4 % 4), .int .i64 0, .int .i64 (B / 3 % 7), .int .i64 0, .int .i64 0, .int .i64 0, .int .i64 1, .int .i64 9999] 48)).cell? ⟨P + 2, 7, none⟩ = some (.slice a3 j c3) := E7.out _
        go_wp2_with (at_builtin; go_must (refine wpList_append_rd rfl _ _ 24 rfl (P + 3) 48 _ 9 72 Tryd.underlying24 infoHd rfl (by decide) (.slice a3 j c3) j (enC hoE hs) rfl (owns_below HO.out HBL.out) _ 1 (hoE ⟨3, 1 + A / 4 % 4, 0, B / 3 % 7, 0, 0, 0⟩) rfl HRA.out (hoE_one _) HN1.out HN2.out ?b3 ?_))
        case b3 => exact Nat.le_trans HS.out HBL.out.size
        intro v8 w8 hv8 hg8
        have HH := Lib.hid (HFIN.out _ w8 v8 ⟨3, 1 + A / 4 % 4, 0, B / 3 % 7, 0, 0, 0⟩ HBL.out HHL.out hv8 hg8)
        obtain ⟨a8, c8, rfl, -, -⟩ := owns_slice hv8
        obtain ⟨z1, z2⟩ := HH.out.1
        clear hv8 hg8 HRA HBL HFIN
        go_wp2_with fail
        go_roundw
        case rel => exact ⟨j + 1, _, hs ++ [⟨3, 1 + A / 4 % 4, 0, B / 3 % 7, 0, 0, 0⟩], by go_num, by omega, by rw [List.length_append, List.length_singleton]; omega, HH.out.2⟩
        case measure => simp [intOf]; omega
      · have HHL : Hid (HolIn ⟨4, 0, 0, 0, 0, B / 3 % 61 - 10, B % 3⟩) := by constructor <;> (try intro hq) <;> simp_all <;> omega
        have HBL : Hid (Below wr.heap.size wr ((wr.alloc (.cells #[.int .i64 4, .int .i64 0, .int .i64 0, .int .i64 0, .int .i64 0, .int .i64 (B / 3 % 61 - 10), .int .i64 (B % 3), .int .i64 1, .int .i64 9999] 48)).alloc (.cells #[.int .i64 4, .int .i64 0, .int .i64 0, .int .i64 0, .int .i64 0, .int .i64 (B / 3 % 61 - 10), .int .i64 (B % 3), .int .i64 1, .int .i64 9999] 48))) := ((Below.refl _ _).alloc (Nat.le_refl _) _).alloc (by simp) _
        have HRA : Hid (Rd ((wr.alloc (.cells #[.int .i64 4, .int .i64 0, .int .i64 0, .int .i64 0, .int .i64 0, .int .i64 (B / 3 % 61 - 10), .int .i64 (B % 3), .int .i64 1, .int .i64 9999] 48)).alloc (.cells #[.int .i64 4, .int .i64 0, .int .i64 0, .int .i64 0, .int .i64 0, .int .i64 (B / 3 % 61 - 10), .int .i64 (B % 3), .int .i64 1, .int .i64 9999] 48)) (.slice (some ⟨wr.heap.size + 1, 0, none⟩) 1 1) 9 1 (hoE ⟨4, 0, 0, 0, 0, B / 3 % 61 - 10, B % 3⟩)) := by
          have h := Rd.lit (wr.alloc (.cells #[.int .i64 4, .int .i64 0, .int .i64 0, .int .i64 0, .int .i64 0, .int .i64 (B / 3 % 61 - 10), .int .i64 (B % 3), .int .i64 1, .int .i64 9999] 48)) #[.int .i64 4, .int .i64 0, .int .i64 0, .int .i64 0, .int .i64 0, .int .i64 (B / 3 % 61 - 10), .int .i64 (B % 3), .int .i64 1, .int .i64 9999] 48 9 1 rfl (by unfold maxLen; omega)
          rw [World.size_alloc] at h
          exact h
        have e7 : (wr.alloc (.cells #[.int .i64 4, .int .i64 0, .int .i64 0, .int .i64 0, .int .i64 0, .int .i64 (B / 3 % 61 - 10), .int .i64 (B % 3), .int .i64 1, .int .i64 9999] 48)).cell? ⟨P + 2, 7, none⟩ = some (.slice a3 j c3) := E7.out _
        go_wp2_with (at_builtin; go_must (refine wpList_append_rd rfl _ _ 24 rfl (P + 3) 48 _ 9 72 Tryd.underlying24 infoHd rfl (by decide) (.slice a3 j c3) j (enC hoE hs) rfl (owns_below HO.out HBL.out) _ 1 (hoE ⟨4, 0, 0, 0, 0, B / 3 % 61 - 10, B % 3⟩) rfl HRA.out (hoE_one _) HN1.out HN2.out ?b3 ?_))
        case b3 => exact Nat.le_trans HS.out HBL.out.size
        intro v8 w8 hv8 hg8
        have HH := Lib.hid (HFIN.out _ w8 v8 ⟨4, 0, 0, 0, 0, B / 3 % 61 - 10, B % 3⟩ HBL.out HHL.out hv8 hg8)
        obtain ⟨a8, c8, rfl, -, -⟩ := owns_slice hv8
        obtain ⟨z1, z2⟩ := HH.out.1
        clear hv8 hg8 HRA HBL HFIN
        go_wp2_with fail
        go_roundw
        case rel => exact ⟨j + 1, _, hs ++ [⟨4, 0, 0, 0, 0, B / 3 % 61 - 10, B % 3⟩], by go_num, by omega, by rw [List.length_append, List.length_singleton]; omega, HH.out.2⟩
        case measure => simp [intOf]; omega
    · obtain ⟨wo, rfl⟩ : ∃ wo, wo = wr := ⟨_, rfl⟩
      obtain ⟨ah, ch, rfl, -, -⟩ := owns_slice HO.out
      obtain ⟨hv, hhv⟩ : ∃ hv, hv = Value.slice ah j ch := ⟨_, rfl⟩
      rw [← hhv] at HO H2
      have HHV := Lib.hid hhv
      have hnlt : n0 ≤ (j : Int) := by omega
      go_wp2_with fail
      refine HP2.out.mono ?_
      rintro e w' ⟨rfl, rfl⟩
      go_wp2_with fail
      clear HP2 hn0 hn1 hnlt hlt HXR hhv
      have HLT : Hid (∀ k, hv.ownBlock = some k → P + 3 ≤ k ∧ k < wo.heap.size) := fun k hk => HO.out.lt k hk
      go_loopw [9] (fun i wr => ∃ (t : Nat) (cv : Value) (cl : List Clo), i = .int .i64 t ∧ t ≤ 3 ∧ cl.length = t ∧ Hid (∀ c ∈ cl, CloIn c) ∧ Hid (wr.ownsRow wo.heap.size 34 3 cv t (enC clE cl)) ∧ Hid (wr.heap[P]? = some (.cells #[.bool false, .bool false, .bool false, .bool false, .bool false, .bool false, .bool false, .slice none 0 0, .slice none 0 0, .int .i64 0, .slice none 0 0, .int .i64 0] 30 (0, 0))) ∧ Hid (wr.heap[P + 2]? = some (.cells #[.bool b0, .bool false, .bool false, .bool false, .bool false, .bool b5, .bool b6, hv, cv, .int .i64 0, .slice none 0 0, .int .i64 hr] 30 (0, 0))) ∧ Hid (Below P w wr) ∧ Hid (wo.heap.size ≤ wr.heap.size) ∧ Hid (∀ k, P + 3 ≤ k → k < wo.heap.size → wr.heap[k]? = wo.heap[k]?)) (fun i _ => 10 - (intOf i).toNat)
      case atStart => exact ⟨0, _, [], rfl, by omega, rfl, Lib.hid (fun h hh => by cases hh), Lib.hid (World.ownsRow_nil _ _ _ _), H0, H2, HB, Lib.hid (Nat.le_refl _), Lib.hid (fun k _ _ => rfl)⟩
      case round =>
        obtain ⟨t, cv, cl, rfl, ht, hcl, HCI, HC, H0, H2, HB, HSO, HK⟩ := hrel
        obtain ⟨n0, hn0⟩ : ∃ n0, pickF l 9 4 = n0 := ⟨_, rfl⟩
        have hn1 := pickF_in l 9 4 (by omega)
        rw [hn0] at hn1
        have HXR := Lib.hid (HX.out.below (HPP.out ▸ HB.out))
        have HP2 := Lib.hid (HPK.out 9 4 wr HXR.out (by omega) (by omega) (by omega))
        rw [hn0] at HP2
        by_cases hlt : (t : Int) < n0
        · obtain ⟨A, hA⟩ : ∃ A, pickF l (10 + t) 1000000 = A := ⟨_, rfl⟩
          have hA1 := pickF_in l (10 + t) 1000000 (by omega)
          have HP3 := Lib.hid (HPK.out (10 + t) 1000000 wr HXR.out (by omega) (by omega) (by omega))
          rw [hA] at HP3 hA1
          clear hA hn0
          obtain ⟨hA0, hA1⟩ := hA1
          obtain ⟨a3, c3, rfl, hjc, hjm⟩ := owns_slice HC.out
          have E8 : wr.cell? ⟨P + 2, 8, none⟩ = some (.slice a3 t c3) := by simp [World.cell?, H2.out]
          go_wp2_with fail
          refine HP2.out.mono ?_
          rintro e w' ⟨rfl, rfl⟩
          go_wp2_with fail
          refine HP3.out.mono ?_
          rintro e w' ⟨rfl, rfl⟩
          have HCL : Hid (CloIn ⟨739616 + A % 120, 739616 + A % 120 + A / 120 % 6, 739616 + A / 720 % 130⟩) := by show CloIn _; unfold CloIn; simp only; omega
          have HBL : Hid (Below wr.heap.size wr (wr.alloc (.cells #[.int .i64 (739616 + A % 120), .int .i64 (739616 + A % 120 + A / 120 % 6), .int .i64 (739616 + A / 720 % 130)] 34))) := (Below.refl _ _).alloc (Nat.le_refl _) _
          have HRA : Hid (Rd (wr.alloc (.cells #[.int .i64 (739616 + A % 120), .int .i64 (739616 + A % 120 + A / 120 % 6), .int .i64 (739616 + A / 720 % 130)] 34)) (.slice (some ⟨wr.heap.size, 0, none⟩) 1 1) 3 1 (clE ⟨739616 + A % 120, 739616 + A % 120 + A / 120 % 6, 739616 + A / 720 % 130⟩)) := Rd.lit wr #[.int .i64 (739616 + A % 120), .int .i64 (739616 + A % 120 + A / 120 % 6), .int .i64 (739616 + A / 720 % 130)] 34 3 1 rfl (by unfold maxLen; omega)
          have HN1 : Hid (t + 1 ≤ maxLen) := (by show _ ≤ _; unfold maxLen; omega)
          have HN2 : Hid ((t + 1) * 24 ≤ 140737488355328) := (by show _ ≤ _; omega)
          go_wp2_with (at_builtin; go_must (refine wpList_append_rd rfl _ _ 25 rfl wo.heap.size 34 _ 3 24 Tryd.underlying25 infoClo rfl (by decide) (.slice a3 t c3) t (enC clE cl) rfl (owns_below HC.out HBL.out) _ 1 (clE ⟨739616 + A % 120, 739616 + A % 120 + A / 120 % 6, 739616 + A / 720 % 130⟩) rfl HRA.out (clE_one _) HN1.out HN2.out ?b3 ?_))
          case b3 => exact Nat.le_trans HSO.out HBL.out.size
          intro v8 w8 hv8 hg8
          have hsz := HS.out
          have hs8 := HBL.out.size
          have hso := HSO.out
          have hs9 := hg8.size
          have hne : ∀ k, k < wo.heap.size → some k ≠ (Value.slice a3 t c3).ownBlock := fun k hk hb => by
            have := (HC.out.lt k hb.symm).1
            omega
          have r0 := (hg8.block P (by omega) (hne P (by omega))).trans ((HBL.out.block P (by omega)).trans H0.out)
          have r2 := (hg8.block (P + 2) (by omega) (hne (P + 2) (by omega))).trans ((HBL.out.block (P + 2) (by omega)).trans H2.out)
          have hb8 := below_append (B := P) (Below.to HB.out HBL.out (by omega)) (owns_mono (owns_below HC.out HBL.out) (by omega)) hg8 (by omega)
          have hk8 : ∀ k, P + 3 ≤ k → k < wo.heap.size → w8.heap[k]? = wo.heap[k]? := fun k h1 h2 => (hg8.block k (by omega) (hne k h2)).trans ((HBL.out.block k (by omega)).trans (HK.out k h1 h2))
          obtain ⟨a8, c8, rfl, -, -⟩ := owns_slice hv8
          have z1 : w8.cell? ⟨P + 2, 8, none⟩ = some (.slice a3 t c3) := by simp [World.cell?, r2]
          have z2 : w8.frozen? ⟨P + 2, 8, none⟩ = false := by simp [World.frozen?, r2]
          have J1 : Hid (∀ c ∈ cl ++ [⟨739616 + A % 120, 739616 + A % 120 + A / 120 % 6, 739616 + A / 720 % 130⟩], CloIn c) := fun c hm => by
            rcases List.mem_append.1 hm with h1 | h1
            · exact HCI.out c h1
            · rw [List.mem_singleton] at h1; rw [h1]; exact HCL.out
          have J2 : Hid ((w8.setCell ⟨P + 2, 8, none⟩ (.slice a8 (t + 1) c8)).ownsRow wo.heap.size 34 3 (.slice a8 (t + 1) c8) (t + 1) (enC clE (cl ++ [⟨739616 + A % 120, 739616 + A % 120 + A / 120 % 6, 739616 + A / 720 % 130⟩]))) := by
            show World.ownsRow _ _ _ _ _ _ _
            rw [enC_append, enC_single]
            exact owns_setCell hv8 (by show P + 2 < wo.heap.size; omega) _
          have J3 : Hid ((w8.setCell ⟨P + 2, 8, none⟩ (.slice a8 (t + 1) c8)).heap[P]? = some (.cells #[.bool false, .bool false, .bool false, .bool false, .bool false, .bool false, .bool false, .slice none 0 0, .slice none 0 0, .int .i64 0, .slice none 0 0, .int .i64 0] 30 (0, 0))) := (row_other (by omega) _).trans r0
          have J4 : Hid ((w8.setCell ⟨P + 2, 8, none⟩ (.slice a8 (t + 1) c8)).heap[P + 2]? = some (.cells #[.bool b0, .bool false, .bool false, .bool false, .bool false, .bool b5, .bool b6, hv, .slice a8 (t + 1) c8, .int .i64 0, .slice none 0 0, .int .i64 hr] 30 (0, 0))) := row_set r2 _
          have J5 : Hid (Below P w (w8.setCell ⟨P + 2, 8, none⟩ (.slice a8 (t + 1) c8))) := hb8.setCell (p := ⟨P + 2, 8, none⟩) (Nat.le_add_right P 2) _
          have J6 : Hid (wo.heap.size ≤ (w8.setCell ⟨P + 2, 8, none⟩ (.slice a8 (t + 1) c8)).heap.size) := by
            show _ ≤ _
            simp only [World.setCell, Array.size_modify]
            omega
          have J7 : Hid (∀ k, P + 3 ≤ k → k < wo.heap.size → (w8.setCell ⟨P + 2, 8, none⟩ (.slice a8 (t + 1) c8)).heap[k]? = wo.heap[k]?) := fun k h1 h2 => (row_other (by omega) _).trans (hk8 k h1 h2)
          clear hv8 hg8 HRA HBL hsz hs8 hso hs9 hne r0 r2 hb8 hk8
          go_wp2_with fail
          go_roundw
          case rel => exact ⟨t + 1, _, cl ++ [⟨739616 + A % 120, 739616 + A % 120 + A / 120 % 6, 739616 + A / 720 % 130⟩], by go_num, by omega, by rw [List.length_append, List.length_singleton]; omega, J1, J2, J3, J4, J5, J6, J7⟩
          case measure => simp [intOf]; omega
        · obtain ⟨wq, rfl⟩ : ∃ wq, wq = wr := ⟨_, rfl⟩
          obtain ⟨ac, cc, rfl, -, -⟩ := owns_slice HC.out
          have hnlt : n0 ≤ (t : Int) := by omega
          go_wp2_with fail
          refine HP2.out.mono ?_
          rintro e w' ⟨rfl, rfl⟩
          by_cases h13 : (13 : Int) < (l.length : Int)
          · obtain ⟨_, cap9, e9, hlm, hlc, hc9⟩ := (HX.out.below (HPP.out ▸ HB.out)).open
            simp only [Value.slice.injEq, true_and] at e9
            obtain ⟨rfl, rfl⟩ := e9
            obtain ⟨bx, ox, rfl, -⟩ := hc9 0 (by omega)
            clear hc9
            have hcp : ¬ cap = 13 := by omega
            have hl13 : (13 : Int) ≤ (l.length : Int) := by omega
            have hc13 : (13 : Int) ≤ (cap : Int) := by omega
            have HIN : Hid (IsInts wq (.slice (some ⟨bx, ox + 13, none⟩) (l.length - 13) (cap - 13)) (l.drop 13)) := (HX.out.below (HPP.out ▸ HB.out)).drop 13 (by omega)
            go_wp2_with fail
            clear HP2 hn0 hn1 hnlt hlt HXR
            refine (HZO.out _ (l.drop 13) wq HIN.out (fun x hx => List.mem_of_mem_drop hx)).mono ?_
            rintro e w5 ⟨z, sv, rfl, xs, hxs, hxl, hb5⟩
            obtain ⟨n5, hn5⟩ : ∃ n, xs.length = n := ⟨_, rfl⟩
            rw [hn5] at hxs hxl
            obtain ⟨a5, c5, rfl, -, -⟩ := owns_slice hxs
            have hsz := HS.out
            have hso := HSO.out
            have r0 := (hb5.block P (by omega)).trans H0.out
            have r2 := (hb5.block (P + 2) (by omega)).trans H2.out
            have y1 : w5.cell? ⟨P + 2, 9, none⟩ = some (.int .i64 0) := by simp [World.cell?, r2]
            have y2 : w5.cell? ⟨P + 2, 10, none⟩ = some (.slice none 0 0) := by simp [World.cell?, r2]
            have y3 : w5.frozen? ⟨P + 2, 9, none⟩ = false := by simp [World.frozen?, r2]
            have y4 : w5.frozen? ⟨P + 2, 10, none⟩ = false := by simp [World.frozen?, r2]
            have J2 : Hid (((w5.setCell ⟨P + 2, 9, none⟩ (.int .i64 z)).setCell ⟨P + 2, 10, none⟩ (.slice a5 n5 c5)).ownsRow wq.heap.size 51 2 (.slice a5 n5 c5) n5 (spCells xs)) := owns_setCell (owns_setCell hxs (by show P + 2 < wq.heap.size; omega) _) (by show P + 2 < wq.heap.size; omega) _
            have J3 : Hid (((w5.setCell ⟨P + 2, 9, none⟩ (.int .i64 z)).setCell ⟨P + 2, 10, none⟩ (.slice a5 n5 c5)).heap[P]? = some (.cells #[.bool false, .bool false, .bool false, .bool false, .bool false, .bool false, .bool false, .slice none 0 0, .slice none 0 0, .int .i64 0, .slice none 0 0, .int .i64 0] 30 (0, 0))) := (row_other (by omega) _).trans ((row_other (by omega) _).trans r0)
            have J4 : Hid (((w5.setCell ⟨P + 2, 9, none⟩ (.int .i64 z)).setCell ⟨P + 2, 10, none⟩ (.slice a5 n5 c5)).heap[P + 2]? = some (.cells #[.bool b0, .bool false, .bool false, .bool false, .bool false, .bool b5, .bool b6, hv, .slice ac t cc, .int .i64 z, .slice a5 n5 c5, .int .i64 hr] 30 (0, 0))) := row_set (row_set r2 _) _
            have J5 : Hid (Below P w ((w5.setCell ⟨P + 2, 9, none⟩ (.int .i64 z)).setCell ⟨P + 2, 10, none⟩ (.slice a5 n5 c5))) := ((Below.to HB.out hb5 (by omega)).setCell (p := ⟨P + 2, 9, none⟩) (Nat.le_add_right P 2) _).setCell (p := ⟨P + 2, 10, none⟩) (Nat.le_add_right P 2) _
            have J6 : Hid (wq.heap.size ≤ ((w5.setCell ⟨P + 2, 9, none⟩ (.int .i64 z)).setCell ⟨P + 2, 10, none⟩ (.slice a5 n5 c5)).heap.size) := by
              have h := hb5.size
              show _ ≤ _
              simp only [World.setCell, Array.size_modify]
              omega
            have J7 : Hid (∀ k, P + 3 ≤ k → k < wq.heap.size → ((w5.setCell ⟨P + 2, 9, none⟩ (.int .i64 z)).setCell ⟨P + 2, 10, none⟩ (.slice a5 n5 c5)).heap[k]? = wq.heap[k]?) := fun k h1 h2 => (row_other (by omega) _).trans ((row_other (by omega) _).trans (hb5.block k h2))
            clear hxs r0 r2 hb5 HZO
            go_wp2_with fail
            clear y1 y2 y3 y4
            go_loopw [13] (fun i wr => ∃ (g : Nat) (xs : List (Int × Int)), i = .int .i64 g ∧ g ≤ n5 ∧ xs.length = n5 ∧ Hid (wr.ownsRow wq.heap.size 51 2 (.slice a5 n5 c5) n5 (spCells xs)) ∧ Hid (wr.heap[P]? = some (.cells #[.bool false, .bool false, .bool false, .bool false, .bool false, .bool false, .bool false, .slice none 0 0, .slice none 0 0, .int .i64 0, .slice none 0 0, .int .i64 0] 30 (0, 0))) ∧ Hid (wr.heap[P + 2]? = some (.cells #[.bool b0, .bool false, .bool false, .bool false, .bool false, .bool b5, .bool b6, hv, .slice ac t cc, .int .i64 z, .slice a5 n5 c5, .int .i64 hr] 30 (0, 0))) ∧ Hid (Below P w wr) ∧ Hid (wq.heap.size ≤ wr.heap.size) ∧ Hid (∀ k, P + 3 ≤ k → k < wq.heap.size → wr.heap[k]? = wq.heap[k]?)) (fun i _ => 30 - (intOf i).toNat)
            case atStart => exact ⟨0, xs, rfl, by omega, hn5, J2, J3, J4, J5, J6, J7⟩
            case round =>
              obtain ⟨g, ys, rfl, hg, hys, HY, K0, K2, KB, KS, KK⟩ := hrel
              clear J2 J3 J4 J5 J6 J7 hn5
              have m2 : wr.cell? ⟨P + 2, 10, none⟩ = some (.slice a5 n5 c5) := by simp [World.cell?, K2.out]
              by_cases hgl : (g : Int) < (n5 : Int)
              · obtain ⟨gb, cg, hge, hgb, hgb2, hgc⟩ := owns_some HY.out (by omega)
                simp only [Value.slice.injEq, true_and] at hge
                obtain ⟨rfl, rfl⟩ := hge
                have hgy : g < ys.length := by omega
                have d1 : wr.cell? ⟨gb, g * 2, none⟩ = some (.int .i64 ys[g].1) := by
                  have h := HY.out.cellAt (g * 2) (by omega)
                  rw [h]
                  have h2 := spCells_get ys g 0 hgy (by omega)
                  rw [Nat.add_zero] at h2
                  rw [h2]
                  rfl
                have d2 : wr.frozen? ⟨gb, g * 2, none⟩ = false := HY.out.frozenAt _
                have HFN : Hid (∀ (V : Int), (wr.drew.setCell ⟨gb, g * 2, none⟩ (.int .i64 V)).ownsRow wq.heap.size 51 2 (.slice (some ⟨gb, 0, none⟩) n5 c5) n5 (spCells (ys.set g (V, ys[g].2))) ∧ (ys.set g (V, ys[g].2)).length = n5 ∧ (wr.drew.setCell ⟨gb, g * 2, none⟩ (.int .i64 V)).heap[P]? = some (.cells #[.bool false, .bool false, .bool false, .bool false, .bool false, .bool false, .bool false, .slice none 0 0, .slice none 0 0, .int .i64 0, .slice none 0 0, .int .i64 0] 30 (0, 0)) ∧ (wr.drew.setCell ⟨gb, g * 2, none⟩ (.int .i64 V)).heap[P + 2]? = some (.cells #[.bool b0, .bool false, .bool false, .bool false, .bool false, .bool b5, .bool b6, hv, .slice ac t cc, .int .i64 z, .slice (some ⟨gb, 0, none⟩) n5 c5, .int .i64 hr] 30 (0, 0)) ∧ Below P w (wr.drew.setCell ⟨gb, g * 2, none⟩ (.int .i64 V)) ∧ wq.heap.size ≤ (wr.drew.setCell ⟨gb, g * 2, none⟩ (.int .i64 V)).heap.size ∧ (∀ k, P + 3 ≤ k → k < wq.heap.size → (wr.drew.setCell ⟨gb, g * 2, none⟩ (.int .i64 V)).heap[k]? = wq.heap[k]?)) := fun V => by
                  have hO := owns_below HY.out ((Below.refl wr.heap.size wr).drew)
                  have hst := (hO.stored (g * 2) (.int .i64 V)).1
                  have hset := spCells_set ys g 0 hgy (by omega) (.int .i64 V) (V, ys[g].2) (by simp [spRow])
                  rw [Nat.add_zero] at hset
                  rw [hset] at hst
                  refine ⟨hst, by rw [List.length_set]; exact hys, (row_other (by omega) _).trans K0.out, (row_other (by omega) _).trans K2.out, KB.out.drew.setCell (p := ⟨gb, g * 2, none⟩) (by show P ≤ gb; omega) _, ?_, fun k h1 h2 => (row_other (by omega) _).trans (KK.out k h1 h2)⟩
                  have h := KS.out
                  simp only [World.setCell, Array.size_modify]
                  exact h
                generalize ys[g] = yg at *
                obtain ⟨X1, X2⟩ := yg
                simp only at d1 HFN
                go_wp2_with fail
                go_region
                all_goals
                  go_wp2_with fail
                  go_roundw
                  case rel => exact ⟨g + 1, _, by go_num, by omega, (HFN.out _).2.1, Lib.hid (HFN.out _).1, Lib.hid (HFN.out _).2.2.1, Lib.hid (HFN.out _).2.2.2.1, Lib.hid (HFN.out _).2.2.2.2.1, Lib.hid (HFN.out _).2.2.2.2.2.1, Lib.hid (HFN.out _).2.2.2.2.2.2⟩
                  case measure => simp [intOf]; omega
              · have hfh : IsHos (wr.setRow P #[.bool b0, .bool false, .bool false, .bool false, .bool false, .bool b5, .bool b6, hv, .slice ac t cc, .int .i64 z, .slice a5 n5 c5, .int .i64 hr]) hv hs := by
                  show Rd _ _ _ _ _
                  rw [hhs]
                  refine Rd.same (Rd.of_owns HO.out) fun k hk hb => ?_
                  have h := HLT.out k hb
                  have h2 := HSO.out
                  exact (setRow_other _ _ _ _ (by omega)).trans ((KK.out k (by omega) (by omega)).trans (HK.out k (by omega) (by omega)))
                have hfc : IsCls (wr.setRow P #[.bool b0, .bool false, .bool false, .bool false, .bool false, .bool b5, .bool b6, hv, .slice ac t cc, .int .i64 z, .slice a5 n5 c5, .int .i64 hr]) (.slice ac t cc) cl := by
                  show Rd _ _ _ _ _
                  rw [hcl]
                  refine Rd.same (Rd.of_owns HC.out) fun k hk hb => ?_
                  have h := HC.out.lt k hb
                  exact (setRow_other _ _ _ _ (by omega)).trans (KK.out k (by omega) hk)
                have hfb : Below w.heap.size w (wr.setRow P #[.bool b0, .bool false, .bool false, .bool false, .bool false, .bool b5, .bool b6, hv, .slice ac t cc, .int .i64 z, .slice a5 n5 c5, .int .i64 hr]) := by rw [← HPP.out]; exact below_setRow KB.out (Nat.le_refl _) _
                have HF1 := Lib.hid hfh
                have HF2 := Lib.hid hfc
                have HF3 := Lib.hid hfb
                have HG1 : Hid ((∀ h ∈ hs, HolIn h) ∧ hs.length ≤ 3) := ⟨HHI.out, by omega⟩
                have HG2 : Hid ((∀ c ∈ cl, CloIn c) ∧ cl.length ≤ 3) := ⟨HCI.out, by omega⟩
                have HG3 := Lib.hid (setRow_heap wr P _ #[.bool b0, .bool false, .bool false, .bool false, .bool false, .bool b5, .bool b6, hv, .slice ac t cc, .int .i64 z, .slice a5 n5 c5, .int .i64 hr] _ _ K0.out)
                have hhv := HHV.out
                subst hhv
                have HALL : Hid ((#[.bool b0, .bool false, .bool false, .bool false, .bool false, .bool b5, .bool b6, .slice ah j ch, .slice ac t cc, .int .i64 z, .slice a5 n5 c5, .int .i64 hr] : Array Value).all (·.oneCell') = true) := by show _ = _; simp; repeat' constructor
                clear hfh hfc hfb HO HC HLT HK KK HHV H0 H2
                go_wp2_with (first
                  | (refine wpList_load_row rfl 30 _ rfl (P + 2) rfl 30 #[.bool b0, .bool false, .bool false, .bool false, .bool false, .bool b5, .bool b6, .slice ah j ch, .slice ac t cc, .int .i64 z, .slice a5 n5 c5, .int .i64 hr] (0, 0) _ K2.out Tryd.underlying30 rfl (by rw [infoCal]; rfl) ?_)
                  | (refine wpList_store_row rfl 30 _ _ rfl P #[.bool b0, .bool false, .bool false, .bool false, .bool false, .bool b5, .bool b6, .slice ah j ch, .slice ac t cc, .int .i64 z, .slice a5 n5 c5, .int .i64 hr] rfl rfl 30 _ K0.out (by rw [infoCal]; rfl) rfl HALL.out ?_))
                refine bodyPost_ret (results_cell_row rfl _ _ P 30 _ _ _ rfl HG3.out Tryd.underlying30 rfl (by rw [infoCal]; rfl)) rfl ?_
                exact ⟨_, rfl, b0, b5, b6, _, _, z, _, _, _, hr, rfl, hs, cl, HG1, HG2, HF1.out, HF2.out, HF3.out⟩
          · go_wp2_with fail
            clear HP2 hn0 hn1 hnlt hlt HXR
            refine (HZO.out _ [] wq (IsInts.nil _ _ _) (fun x hx => by cases hx)).mono ?_
            rintro e w5 ⟨z, sv, rfl, xs, hxs, hxl, hb5⟩
            obtain ⟨n5, hn5⟩ : ∃ n, xs.length = n := ⟨_, rfl⟩
            rw [hn5] at hxs hxl
            obtain ⟨a5, c5, rfl, -, -⟩ := owns_slice hxs
            have hsz := HS.out
            have hso := HSO.out
            have r0 := (hb5.block P (by omega)).trans H0.out
            have r2 := (hb5.block (P + 2) (by omega)).trans H2.out
            have y1 : w5.cell? ⟨P + 2, 9, none⟩ = some (.int .i64 0) := by simp [World.cell?, r2]
            have y2 : w5.cell? ⟨P + 2, 10, none⟩ = some (.slice none 0 0) := by simp [World.cell?, r2]
            have y3 : w5.frozen? ⟨P + 2, 9, none⟩ = false := by simp [World.frozen?, r2]
            have y4 : w5.frozen? ⟨P + 2, 10, none⟩ = false := by simp [World.frozen?, r2]
            have J2 : Hid (((w5.setCell ⟨P + 2, 9, none⟩ (.int .i64 z)).setCell ⟨P + 2, 10, none⟩ (.slice a5 n5 c5)).ownsRow wq.heap.size 51 2 (.slice a5 n5 c5) n5 (spCells xs)) := owns_setCell (owns_setCell hxs (by show P + 2 < wq.heap.size; omega) _) (by show P + 2 < wq.heap.size; omega) _
            have J3 : Hid (((w5.setCell ⟨P + 2, 9, none⟩ (.int .i64 z)).setCell ⟨P + 2, 10, none⟩ (.slice a5 n5 c5)).heap[P]? = some (.cells #[.bool false, .bool false, .bool false, .bool false, .bool false, .bool false, .bool false, .slice none 0 0, .slice none 0 0, .int .i64 0, .slice none 0 0, .int .i64 0] 30 (0, 0))) := (row_other (by omega) _).trans ((row_other (by omega) _).trans r0)
            have J4 : Hid (((w5.setCell ⟨P + 2, 9, none⟩ (.int .i64 z)).setCell ⟨P + 2, 10, none⟩ (.slice a5 n5 c5)).heap[P + 2]? = some (.cells #[.bool b0, .bool false, .bool false, .bool false, .bool false, .bool b5, .bool b6, hv, .slice ac t cc, .int .i64 z, .slice a5 n5 c5, .int .i64 hr] 30 (0, 0))) := row_set (row_set r2 _) _
            have J5 : Hid (Below P w ((w5.setCell ⟨P + 2, 9, none⟩ (.int .i64 z)).setCell ⟨P + 2, 10, none⟩ (.slice a5 n5 c5))) := ((Below.to HB.out hb5 (by omega)).setCell (p := ⟨P + 2, 9, none⟩) (Nat.le_add_right P 2) _).setCell (p := ⟨P + 2, 10, none⟩) (Nat.le_add_right P 2) _
            have J6 : Hid (wq.heap.size ≤ ((w5.setCell ⟨P + 2, 9, none⟩ (.int .i64 z)).setCell ⟨P + 2, 10, none⟩ (.slice a5 n5 c5)).heap.size) := by
              have h := hb5.size
              show _ ≤ _
              simp only [World.setCell, Array.size_modify]
              omega
            have J7 : Hid (∀ k, P + 3 ≤ k → k < wq.heap.size → ((w5.setCell ⟨P + 2, 9, none⟩ (.int .i64 z)).setCell ⟨P + 2, 10, none⟩ (.slice a5 n5 c5)).heap[k]? = wq.heap[k]?) := fun k h1 h2 => (row_other (by omega) _).trans ((row_other (by omega) _).trans (hb5.block k h2))
            clear hxs r0 r2 hb5 HZO
            go_wp2_with fail
            clear y1 y2 y3 y4
            go_loopw [13] (fun i wr => ∃ (g : Nat) (xs : List (Int × Int)), i = .int .i64 g ∧ g ≤ n5 ∧ xs.length = n5 ∧ Hid (wr.ownsRow wq.heap.size 51 2 (.slice a5 n5 c5) n5 (spCells xs)) ∧ Hid (wr.heap[P]? = some (.cells #[.bool false, .bool false, .bool false, .bool false, .bool false, .bool false, .bool false, .slice none 0 0, .slice none 0 0, .int .i64 0, .slice none 0 0, .int .i64 0] 30 (0, 0))) ∧ Hid (wr.heap[P + 2]? = some (.cells #[.bool b0, .bool false, .bool false, .bool false, .bool false, .bool b5, .bool b6, hv, .slice ac t cc, .int .i64 z, .slice a5 n5 c5, .int .i64 hr] 30 (0, 0))) ∧ Hid (Below P w wr) ∧ Hid (wq.heap.size ≤ wr.heap.size) ∧ Hid (∀ k, P + 3 ≤ k → k < wq.heap.size → wr.heap[k]? = wq.heap[k]?)) (fun i _ => 30 - (intOf i).toNat)
            case atStart => exact ⟨0, xs, rfl, by omega, hn5, J2, J3, J4, J5, J6, J7⟩
            case round =>
              obtain ⟨g, ys, rfl, hg, hys, HY, K0, K2, KB, KS, KK⟩ := hrel
              clear J2 J3 J4 J5 J6 J7 hn5
              have m2 : wr.cell? ⟨P + 2, 10, none⟩ = some (.slice a5 n5 c5) := by simp [World.cell?, K2.out]
              by_cases hgl : (g : Int) < (n5 : Int)
              · obtain ⟨gb, cg, hge, hgb, hgb2, hgc⟩ := owns_some HY.out (by omega)
                simp only [Value.slice.injEq, true_and] at hge
                obtain ⟨rfl, rfl⟩ := hge
                have hgy : g < ys.length := by omega
                have d1 : wr.cell? ⟨gb, g * 2, none⟩ = some (.int .i64 ys[g].1) := by
                  have h := HY.out.cellAt (g * 2) (by omega)
                  rw [h]
                  have h2 := spCells_get ys g 0 hgy (by omega)
                  rw [Nat.add_zero] at h2
                  rw [h2]
                  rfl
                have d2 : wr.frozen? ⟨gb, g * 2, none⟩ = false := HY.out.frozenAt _
                have HFN : Hid (∀ (V : Int), (wr.drew.setCell ⟨gb, g * 2, none⟩ (.int .i64 V)).ownsRow wq.heap.size 51 2 (.slice (some ⟨gb, 0, none⟩) n5 c5) n5 (spCells (ys.set g (V, ys[g].2))) ∧ (ys.set g (V, ys[g].2)).length = n5 ∧ (wr.drew.setCell ⟨gb, g * 2, none⟩ (.int .i64 V)).heap[P]? = some (.cells #[.bool false, .bool false, .bool false, .bool false, .bool false, .bool false, .bool false, .slice none 0 0, .slice none 0 0, .int .i64 0, .slice none 0 0, .int .i64 0] 30 (0, 0)) ∧ (wr.drew.setCell ⟨gb, g * 2, none⟩ (.int .i64 V)).heap[P + 2]? = some (.cells #[.bool b0, .bool false, .bool false, .bool false, .bool false, .bool b5, .bool b6, hv, .slice ac t cc, .int .i64 z, .slice (some ⟨gb, 0, none⟩) n5 c5, .int .i64 hr] 30 (0, 0)) ∧ Below P w (wr.drew.setCell ⟨gb, g * 2, none⟩ (.int .i64 V)) ∧ wq.heap.size ≤ (wr.drew.setCell ⟨gb, g * 2, none⟩ (.int .i64 V)).heap.size ∧ (∀ k, P + 3 ≤ k → k < wq.heap.size → (wr.drew.setCell ⟨gb, g * 2, none⟩ (.int .i64 V)).heap[k]? = wq.heap[k]?)) := fun V => by
                  have hO := owns_below HY.out ((Below.refl wr.heap.size wr).drew)
                  have hst := (hO.stored (g * 2) (.int .i64 V)).1
                  have hset := spCells_set ys g 0 hgy (by omega) (.int .i64 V) (V, ys[g].2) (by simp [spRow])
                  rw [Nat.add_zero] at hset
                  rw [hset] at hst
                  refine ⟨hst, by rw [List.length_set]; exact hys, (row_other (by omega) _).trans K0.out, (row_other (by omega) _).trans K2.out, KB.out.drew.setCell (p := ⟨gb, g * 2, none⟩) (by show P ≤ gb; omega) _, ?_, fun k h1 h2 => (row_other (by omega) _).trans (KK.out k h1 h2)⟩
                  have h := KS.out
                  simp only [World.setCell, Array.size_modify]
                  exact h
                generalize ys[g] = yg at *
                obtain ⟨X1, X2⟩ := yg
                simp only at d1 HFN
                go_wp2_with fail
                go_region
                all_goals
                  go_wp2_with fail
                  go_roundw
                  case rel => exact ⟨g + 1, _, by go_num, by omega, (HFN.out _).2.1, Lib.hid (HFN.out _).1, Lib.hid (HFN.out _).2.2.1, Lib.hid (HFN.out _).2.2.2.1, Lib.hid (HFN.out _).2.2.2.2.1, Lib.hid (HFN.out _).2.2.2.2.2.1, Lib.hid (HFN.out _).2.2.2.2.2.2⟩
                  case measure => simp [intOf]; omega
              · have hfh : IsHos (wr.setRow P #[.bool b0, .bool false, .bool false, .bool false, .bool false, .bool b5, .bool b6, hv, .slice ac t cc, .int .i64 z, .slice a5 n5 c5, .int .i64 hr]) hv hs := by
                  show Rd _ _ _ _ _
                  rw [hhs]
                  refine Rd.same (Rd.of_owns HO.out) fun k hk hb => ?_
                  have h := HLT.out k hb
                  have h2 := HSO.out
                  exact (setRow_other _ _ _ _ (by omega)).trans ((KK.out k (by omega) (by omega)).trans (HK.out k (by omega) (by omega)))
                have hfc : IsCls (wr.setRow P #[.bool b0, .bool false, .bool false, .bool false, .bool false, .bool b5, .bool b6, hv, .slice ac t cc, .int .i64 z, .slice a5 n5 c5, .int .i64 hr]) (.slice ac t cc) cl := by
                  show Rd _ _ _ _ _
                  rw [hcl]
                  refine Rd.same (Rd.of_owns HC.out) fun k hk hb => ?_
                  have h := HC.out.lt k hb
                  exact (setRow_other _ _ _ _ (by omega)).trans (KK.out k (by omega) hk)
                have hfb : Below w.heap.size w (wr.setRow P #[.bool b0, .bool false, .bool false, .bool false, .bool false, .bool b5, .bool b6, hv, .slice ac t cc, .int .i64 z, .slice a5 n5 c5, .int .i64 hr]) := by rw [← HPP.out]; exact below_setRow KB.out (Nat.le_refl _) _
                have HF1 := Lib.hid hfh
                have HF2 := Lib.hid hfc
                have HF3 := Lib.hid hfb
                have HG1 : Hid ((∀ h ∈ hs, HolIn h) ∧ hs.length ≤ 3) := ⟨HHI.out, by omega⟩
                have HG2 : Hid ((∀ c ∈ cl, CloIn c) ∧ cl.length ≤ 3) := ⟨HCI.out, by omega⟩
                have HG3 := Lib.hid (setRow_heap wr P _ #[.bool b0, .bool false, .bool false, .bool false, .bool false, .bool b5, .bool b6, hv, .slice ac t cc, .int .i64 z, .slice a5 n5 c5, .int .i64 hr] _ _ K0.out)
                have hhv := HHV.out
                subst hhv
                have HALL : Hid ((#[.bool b0, .bool false, .bool false, .bool false, .bool false, .bool b5, .bool b6, .slice ah j ch, .slice ac t cc, .int .i64 z, .slice a5 n5 c5, .int .i64 hr] : Array Value).all (·.oneCell') = true) := by show _ = _; simp; repeat' constructor
                clear hfh hfc hfb HO HC HLT HK KK HHV H0 H2
                go_wp2_with (first
                  | (refine wpList_load_row rfl 30 _ rfl (P + 2) rfl 30 #[.bool b0, .bool false, .bool false, .bool false, .bool false, .bool b5, .bool b6, .slice ah j ch, .slice ac t cc, .int .i64 z, .slice a5 n5 c5, .int .i64 hr] (0, 0) _ K2.out Tryd.underlying30 rfl (by rw [infoCal]; rfl) ?_)
                  | (refine wpList_store_row rfl 30 _ _ rfl P #[.bool b0, .bool false, .bool false, .bool false, .bool false, .bool b5, .bool b6, .slice ah j ch, .slice ac t cc, .int .i64 z, .slice a5 n5 c5, .int .i64 hr] rfl rfl 30 _ K0.out (by rw [infoCal]; rfl) rfl HALL.out ?_))
                refine bodyPost_ret (results_cell_row rfl _ _ P 30 _ _ _ rfl HG3.out Tryd.underlying30 rfl (by rw [infoCal]; rfl)) rfl ?_
                exact ⟨_, rfl, b0, b5, b6, _, _, z, _, _, _, hr, rfl, hs, cl, HG1, HG2, HF1.out, HF2.out, HF3.out⟩

end Go.Proofs.YtkcmkpljpmfiaaaDoor
