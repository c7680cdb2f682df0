/-
  Package holiday: the four kinds of rule.
-/
import Derived.Test.YtkcmkpljpmfiaaaDoorHoE
namespace Go.Proofs.YtkcmkpljpmfiaaaDoor
open Go.RowKit

def nom1 (y m d : Int) : Int × Bool := ((dayF y m d).1, (dayF y m d).2 == 0)
def nom2 (y m wk n : Int) : Int × Bool := (firF y m wk + 7 * (n - 1), decide (firF y m wk + 7 * (n - 1) < firD y m + lenF y m))
def nom3 (y m wk : Int) : Int × Bool := (firF y m wk + (firD y m + lenF y m - 1 - firF y m wk) / 7 * 7, true)
def nom4 (y o : Int) : Int × Bool := (eaF y + o, true)

set_option maxHeartbeats 1000000 in
theorem kind1_any (k m d wk n o v y : Int) (w : World) (hT : Tabs w) (hy : 2024 ≤ y ∧ y ≤ 2030) (hm : 1 ≤ m ∧ m ≤ 4) (hd : 1 ≤ d ∧ d ≤ 31) :
    Calls Tryd.prog 59 #[.agg #[.int .i64 k, .int .i64 m, .int .i64 d, .int .i64 wk, .int .i64 n, .int .i64 o, .int .i64 v, .int .i64 1, .int .i64 9999], .int .i64 y] w fun e w' => e = .returned (.tuple #[.int .i64 (nom1 y m d).1, .bool (nom1 y m d).2]) ∧ Below w.heap.size w w' := by
  obtain ⟨W1, hW1⟩ : ∃ W, W = w.alloc (.cells #[.int .i64 k, .int .i64 m, .int .i64 d, .int .i64 wk, .int .i64 n, .int .i64 o, .int .i64 v, .int .i64 1, .int .i64 9999] 48) := ⟨_, rfl⟩
  obtain ⟨P, hP⟩ : ∃ P, P = w.heap.size := ⟨_, rfl⟩
  have hb1 : Below w.heap.size w W1 := by rw [hW1]; exact (Below.refl _ _).alloc (Nat.le_refl _) _
  have hrow : W1.heap[P]? = some (.cells #[.int .i64 k, .int .i64 m, .int .i64 d, .int .i64 wk, .int .i64 n, .int .i64 o, .int .i64 v, .int .i64 1, .int .i64 9999] 48 (0, 0)) := by
    rw [hW1, hP]; show (w.heap.push _)[w.heap.size]? = _; simp
  have hlt : P < W1.heap.size := (Array.getElem?_eq_some_iff.1 hrow).1
  have HDA := Lib.hid (day_any y m d W1 (hT.below hb1) (by omega) hm hd)
  have hdi := dayF_in (y := y) (by omega) hm hd
  have hne : nom1 y m d = ((dayF y m d).1, (dayF y m d).2 == 0) := rfl
  rw [hne]
  obtain ⟨⟨D, E⟩, hD⟩ : ∃ D, dayF y m d = D := ⟨_, rfl⟩
  rw [hD] at HDA hdi ⊢
  have HRW : Hid (∀ w', Below W1.heap.size W1 w' → w'.cell? ⟨P, 1, none⟩ = some (.int .i64 m) ∧ w'.cell? ⟨P, 2, none⟩ = some (.int .i64 d)) := fun w' hb => by
    have h2 := (hb.block P hlt).trans hrow
    refine ⟨?_, ?_⟩ <;> simp [World.cell?, h2]
  have HB1 := Lib.hid hb1
  have HW1 := Lib.hid hW1
  have HP := Lib.hid hP
  clear hT hb1 hrow hlt hW1 hP hD hne hdi hy hm hd
  by_cases hE : E = 0
  · subst hE
    go_enter Tryd.func59, Tryd.ntmps59
    go_wp2_with fail
    rw [← HW1.out]
    refine HDA.out.mono ?_
    rintro e w2 ⟨rfl, hb2⟩
    have HB2 := Lib.hid (Below.to HB1.out hb2 HB1.out.size)
    clear hb2
    go_wp2_with fail
    go_ret2
    exact ⟨rfl, HB2.out⟩
  · have hEf : (E == 0) = false := by simpa using hE
    have HEf := Lib.hid hEf
    go_enter Tryd.func59, Tryd.ntmps59
    go_wp2_with fail
    rw [← HW1.out]
    refine HDA.out.mono ?_
    rintro e w2 ⟨rfl, hb2⟩
    have HB2 := Lib.hid (Below.to HB1.out hb2 HB1.out.size)
    clear hb2
    go_wp2_with fail
    go_ret2
    exact ⟨ret_ib rfl (by first | rfl | exact HEf.out.symm | (simp; exact HEf.out) | trace_state), HB2.out⟩

set_option maxHeartbeats 1000000 in
theorem kind2_any (k m d wk n o v y : Int) (w : World) (hT : Tabs w) (hy : 2024 ≤ y ∧ y ≤ 2030) (hm : 1 ≤ m ∧ m ≤ 4) (hk : 0 ≤ wk ∧ wk ≤ 6) (hn : 1 ≤ n ∧ n ≤ 5) :
    Calls Tryd.prog 62 #[.agg #[.int .i64 k, .int .i64 m, .int .i64 d, .int .i64 wk, .int .i64 n, .int .i64 o, .int .i64 v, .int .i64 1, .int .i64 9999], .int .i64 y] w fun e w' => e = .returned (.tuple #[.int .i64 (nom2 y m wk n).1, .bool (nom2 y m wk n).2]) ∧ Below w.heap.size w w' := by
  obtain ⟨W1, hW1⟩ : ∃ W, W = w.alloc (.cells #[.int .i64 k, .int .i64 m, .int .i64 d, .int .i64 wk, .int .i64 n, .int .i64 o, .int .i64 v, .int .i64 1, .int .i64 9999] 48) := ⟨_, rfl⟩
  obtain ⟨P, hP⟩ : ∃ P, P = w.heap.size := ⟨_, rfl⟩
  have hb1 : Below w.heap.size w W1 := by rw [hW1]; exact (Below.refl _ _).alloc (Nat.le_refl _) _
  have hrow : W1.heap[P]? = some (.cells #[.int .i64 k, .int .i64 m, .int .i64 d, .int .i64 wk, .int .i64 n, .int .i64 o, .int .i64 v, .int .i64 1, .int .i64 9999] 48 (0, 0)) := by
    rw [hW1, hP]; show (w.heap.push _)[w.heap.size]? = _; simp
  have hlt : P < W1.heap.size := (Array.getElem?_eq_some_iff.1 hrow).1
  have HFI := Lib.hid (first_any k m d wk n o v y W1 (hT.below hb1) (by omega) hm hk)
  have HLE := Lib.hid (fun w7 (h7 : Below W1.heap.size W1 w7) => length_any y m w7 ((hT.below hb1).below h7) (by omega) hm)
  have hli := lenF_in (y := y) hm
  have hfi := firD_in (y := y) (by omega) hm
  have hff := firF_in (y := y) (k := wk) (by omega) hm
  have hne : nom2 y m wk n = (firF y m wk + 7 * (n - 1), decide (firF y m wk + 7 * (n - 1) < firD y m + lenF y m)) := rfl
  rw [hne]
  obtain ⟨D, hD⟩ : ∃ D, firD y m = D := ⟨_, rfl⟩
  obtain ⟨G, hG⟩ : ∃ D, firF y m wk = D := ⟨_, rfl⟩
  obtain ⟨L, hL⟩ : ∃ D, lenF y m = D := ⟨_, rfl⟩
  rw [hD, hG] at HFI
  rw [hL] at HLE hli
  rw [hD] at hfi hff
  rw [hG] at hff
  rw [hD, hG, hL]
  have HRW : Hid (∀ w', Below W1.heap.size W1 w' → w'.cell? ⟨P, 1, none⟩ = some (.int .i64 m) ∧ w'.cell? ⟨P, 4, none⟩ = some (.int .i64 n)) := fun w' hb => by
    have h2 := (hb.block P hlt).trans hrow
    refine ⟨?_, ?_⟩ <;> simp [World.cell?, h2]
  have HB1 := Lib.hid hb1
  have HW1 := Lib.hid hW1
  have HP := Lib.hid hP
  obtain ⟨hn1, hn2⟩ := hn
  obtain ⟨hf1, hf2⟩ := hfi
  obtain ⟨hg1, hg2⟩ := hff
  obtain ⟨hl1, hl2⟩ := hli
  have hg3 : 729000 ≤ G := by omega
  have hg4 : G ≤ 770006 := by omega
  clear hT hb1 hrow hlt hW1 hP hD hG hL hne hy hm hk hg1 hg2
  go_enter Tryd.func62, Tryd.ntmps62
  go_wp2_with fail
  rw [← HW1.out, ← HP.out]
  refine HFI.out.mono ?_
  rintro e w2 ⟨rfl, hb2⟩
  have HB2 := Lib.hid (Below.to HB1.out hb2 HB1.out.size)
  obtain ⟨c1, c4⟩ := HRW.out w2 hb2
  have HL2 := Lib.hid (HLE.out w2 hb2)
  clear hb2 HFI HLE
  go_wp2_with fail
  refine HL2.out.mono ?_
  rintro e w3 ⟨rfl, h2⟩
  obtain rfl := h2.symm
  go_wp2_with fail
  go_ret2
  exact ⟨rfl, HB2.out⟩

set_option maxHeartbeats 1000000 in
theorem kind3_any (k m d wk n o v y : Int) (w : World) (hT : Tabs w) (hy : 2024 ≤ y ∧ y ≤ 2030) (hm : 1 ≤ m ∧ m ≤ 4) (hk : 0 ≤ wk ∧ wk ≤ 6) :
    Calls Tryd.prog 66 #[.agg #[.int .i64 k, .int .i64 m, .int .i64 d, .int .i64 wk, .int .i64 n, .int .i64 o, .int .i64 v, .int .i64 1, .int .i64 9999], .int .i64 y] w fun e w' => e = .returned (.tuple #[.int .i64 (nom3 y m wk).1, .bool (nom3 y m wk).2]) ∧ Below w.heap.size w w' := by
  obtain ⟨W1, hW1⟩ : ∃ W, W = w.alloc (.cells #[.int .i64 k, .int .i64 m, .int .i64 d, .int .i64 wk, .int .i64 n, .int .i64 o, .int .i64 v, .int .i64 1, .int .i64 9999] 48) := ⟨_, rfl⟩
  obtain ⟨P, hP⟩ : ∃ P, P = w.heap.size := ⟨_, rfl⟩
  have hb1 : Below w.heap.size w W1 := by rw [hW1]; exact (Below.refl _ _).alloc (Nat.le_refl _) _
  have hrow : W1.heap[P]? = some (.cells #[.int .i64 k, .int .i64 m, .int .i64 d, .int .i64 wk, .int .i64 n, .int .i64 o, .int .i64 v, .int .i64 1, .int .i64 9999] 48 (0, 0)) := by
    rw [hW1, hP]; show (w.heap.push _)[w.heap.size]? = _; simp
  have hlt : P < W1.heap.size := (Array.getElem?_eq_some_iff.1 hrow).1
  have HFI := Lib.hid (first_any k m d wk n o v y W1 (hT.below hb1) (by omega) hm hk)
  have HLE := Lib.hid (fun w7 (h7 : Below W1.heap.size W1 w7) => length_any y m w7 ((hT.below hb1).below h7) (by omega) hm)
  have hli := lenF_in (y := y) hm
  have hfi := firD_in (y := y) (by omega) hm
  have hff := firF_in (y := y) (k := wk) (by omega) hm
  have hne : nom3 y m wk = (firF y m wk + (firD y m + lenF y m - 1 - firF y m wk) / 7 * 7, true) := rfl
  rw [hne]
  obtain ⟨D, hD⟩ : ∃ D, firD y m = D := ⟨_, rfl⟩
  obtain ⟨G, hG⟩ : ∃ D, firF y m wk = D := ⟨_, rfl⟩
  obtain ⟨L, hL⟩ : ∃ D, lenF y m = D := ⟨_, rfl⟩
  rw [hD, hG] at HFI
  rw [hL] at HLE hli
  rw [hD] at hfi hff
  rw [hG] at hff
  rw [hD, hG, hL]
  have HRW : Hid (∀ w', Below W1.heap.size W1 w' → w'.cell? ⟨P, 1, none⟩ = some (.int .i64 m) ∧ w'.cell? ⟨P, 4, none⟩ = some (.int .i64 n)) := fun w' hb => by
    have h2 := (hb.block P hlt).trans hrow
    refine ⟨?_, ?_⟩ <;> simp [World.cell?, h2]
  have HB1 := Lib.hid hb1
  have HW1 := Lib.hid hW1
  have HP := Lib.hid hP
  obtain ⟨hf1, hf2⟩ := hfi
  obtain ⟨hg1, hg2⟩ := hff
  obtain ⟨hl1, hl2⟩ := hli
  have hg3 : 729000 ≤ G := by omega
  have hg4 : G ≤ 770006 := by omega
  have hz1 : 0 ≤ D + L - 1 - G := by omega
  have hz2 : D + L - 1 - G ≤ 31 := by omega
  clear hT hb1 hrow hlt hW1 hP hD hG hL hne hy hm hk hg1 hg2
  go_enter Tryd.func66, Tryd.ntmps66
  go_wp2_with fail
  rw [← HW1.out, ← HP.out]
  refine HFI.out.mono ?_
  rintro e w2 ⟨rfl, hb2⟩
  have HB2 := Lib.hid (Below.to HB1.out hb2 HB1.out.size)
  obtain ⟨c1, c4⟩ := HRW.out w2 hb2
  have HL2 := Lib.hid (HLE.out w2 hb2)
  clear hb2 HFI HLE
  go_wp2_with fail
  refine HL2.out.mono ?_
  rintro e w3 ⟨rfl, h2⟩
  obtain rfl := h2.symm
  go_wp2_with fail
  go_ret2
  exact ⟨rfl, HB2.out⟩

set_option maxHeartbeats 1000000 in
theorem kind4_any (k m d wk n o v y : Int) (w : World) (hT : Tabs w) (hy : 2024 ≤ y ∧ y ≤ 2030) (ho : -10 ≤ o ∧ o ≤ 50) :
    Calls Tryd.prog 68 #[.agg #[.int .i64 k, .int .i64 m, .int .i64 d, .int .i64 wk, .int .i64 n, .int .i64 o, .int .i64 v, .int .i64 1, .int .i64 9999], .int .i64 y] w fun e w' => e = .returned (.tuple #[.int .i64 (nom4 y o).1, .bool (nom4 y o).2]) ∧ Below w.heap.size w w' := by
  obtain ⟨W1, hW1⟩ : ∃ W, W = w.alloc (.cells #[.int .i64 k, .int .i64 m, .int .i64 d, .int .i64 wk, .int .i64 n, .int .i64 o, .int .i64 v, .int .i64 1, .int .i64 9999] 48) := ⟨_, rfl⟩
  obtain ⟨P, hP⟩ : ∃ P, P = w.heap.size := ⟨_, rfl⟩
  have hb1 : Below w.heap.size w W1 := by rw [hW1]; exact (Below.refl _ _).alloc (Nat.le_refl _) _
  have hrow : W1.heap[P]? = some (.cells #[.int .i64 k, .int .i64 m, .int .i64 d, .int .i64 wk, .int .i64 n, .int .i64 o, .int .i64 v, .int .i64 1, .int .i64 9999] 48 (0, 0)) := by
    rw [hW1, hP]; show (w.heap.push _)[w.heap.size]? = _; simp
  have hlt : P < W1.heap.size := (Array.getElem?_eq_some_iff.1 hrow).1
  have HEA := Lib.hid (easter_any y W1 hy)
  have hei := eaF_in hy
  have hne : nom4 y o = (eaF y + o, true) := rfl
  rw [hne]
  obtain ⟨D, hD⟩ : ∃ D, eaF y = D := ⟨_, rfl⟩
  rw [hD] at HEA hei ⊢
  have HRW : Hid (∀ w', Below W1.heap.size W1 w' → w'.cell? ⟨P, 5, none⟩ = some (.int .i64 o)) := fun w' hb => by
    have h2 := (hb.block P hlt).trans hrow
    simp [World.cell?, h2]
  have HB1 := Lib.hid hb1
  have HW1 := Lib.hid hW1
  have HP := Lib.hid hP
  obtain ⟨ho1, ho2⟩ := ho
  obtain ⟨he1, he2⟩ := hei
  clear hT hb1 hrow hlt hW1 hP hD hne hy
  go_enter Tryd.func68, Tryd.ntmps68
  go_wp2_with fail
  rw [← HW1.out, ← HP.out]
  refine HEA.out.mono ?_
  rintro e w2 ⟨rfl, hb2⟩
  have HB2 := Lib.hid (Below.to HB1.out hb2 HB1.out.size)
  have c5 := HRW.out w2 hb2
  clear hb2
  go_wp2_with fail
  go_ret2
  exact ⟨rfl, HB2.out⟩

end Go.Proofs.YtkcmkpljpmfiaaaDoor
