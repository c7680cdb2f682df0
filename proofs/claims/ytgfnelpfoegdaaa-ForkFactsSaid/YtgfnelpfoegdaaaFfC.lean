/-
  The reference's Fact (made from numbers) and Kind.
-/
import Derived.Test.YtgfnelpfoegdaaaFfB
namespace Go.Proofs.Ytgfnelpfoegdaaa
open Go.RowKit

set_option maxHeartbeats 400000 in
theorem around01_any (n most : Int) (hn : I64 n) (h1 : 1 ≤ most) (w : World) :
    Calls Try.prog 72 #[.int .i64 n, .int .i64 most] w fun e w' => e = .returned (.int .i64 (around n most)) ∧ w = w' := by
  unfold I64 at hn
  obtain ⟨hn1, hn2⟩ := hn
  have hz : (most == 0) = false := by simp; omega
  by_cases h0 : n < 0
  · go_enter Try.func72, Try.ntmps72
    go_wp2
    go_ret
    exact ⟨ret_int (around_neg _ _ h0), rfl⟩
  · go_enter Try.func72, Try.ntmps72
    go_wp2
    go_ret
    exact ⟨ret_int (around_pos _ _ (by omega)), rfl⟩

/-- The six kinds of events. -/
def kinds : List ByteArray := [⟨#[99, 108, 97, 105, 109]⟩, ⟨#[97, 110, 115, 119, 101, 114]⟩, ⟨#[109, 111, 116, 105, 111, 110]⟩, ⟨#[111, 114, 100, 101, 114]⟩, ⟨#[97, 112, 112, 101, 97, 108]⟩, ⟨#[108, 97, 112, 115, 101]⟩]
def kindF (j : Nat) : ByteArray := kinds.getD j ⟨#[97]⟩
theorem kindF_word (j : Nat) : WordB (kindF j) := by
  match j with
  | 0 => exact ⟨by decide, by decide, by decide⟩
  | 1 => exact ⟨by decide, by decide, by decide⟩
  | 2 => exact ⟨by decide, by decide, by decide⟩
  | 3 => exact ⟨by decide, by decide, by decide⟩
  | 4 => exact ⟨by decide, by decide, by decide⟩
  | 5 => exact ⟨by decide, by decide, by decide⟩
  | n + 6 => exact (show WordB ⟨#[97]⟩ from ⟨by decide, by decide, by decide⟩)

set_option maxHeartbeats 1000000 in
theorem kind_any (j : Nat) (hj : j < 6) (w : World) : Calls Try.prog 67 #[.int .i64 j] w fun e w' => e = .returned (.string (kindF j)) ∧ Below w.heap.size w w' := by
  have ha : ∀ w7, Calls Try.prog 72 #[.int .i64 j, .int .i64 6] w7 fun e w' => e = .returned (.int .i64 j) ∧ w7 = w' := fun w7 => by
    have h := around01_any j 6 (by unfold I64; omega) (by omega) w7
    rwa [show around (j : Int) 6 = (j : Int) by unfold around; rw [if_neg (by omega)]; omega] at h
  have HA := Lib.hid ha
  have hb : Below w.heap.size w (w.alloc (.cells #[.string ⟨#[99, 108, 97, 105, 109]⟩, .string ⟨#[97, 110, 115, 119, 101, 114]⟩, .string ⟨#[109, 111, 116, 105, 111, 110]⟩, .string ⟨#[111, 114, 100, 101, 114]⟩, .string ⟨#[97, 112, 112, 101, 97, 108]⟩, .string ⟨#[108, 97, 112, 115, 101]⟩] 9)) := (Below.refl _ _).alloc (Nat.le_refl _) _
  have HB := Lib.hid hb
  have hjl : (j : Int) < 6 := by omega
  have hcj : (#[Value.string ⟨#[99, 108, 97, 105, 109]⟩, .string ⟨#[97, 110, 115, 119, 101, 114]⟩, .string ⟨#[109, 111, 116, 105, 111, 110]⟩, .string ⟨#[111, 114, 100, 101, 114]⟩, .string ⟨#[97, 112, 112, 101, 97, 108]⟩, .string ⟨#[108, 97, 112, 115, 101]⟩] : Array Value)[j]? = some (.string (kindF j)) := by
    match j, hj with
    | 0, _ => rfl
    | 1, _ => rfl
    | 2, _ => rfl
    | 3, _ => rfl
    | 4, _ => rfl
    | 5, _ => rfl
  have hcell : ((w.alloc (.cells #[.string ⟨#[99, 108, 97, 105, 109]⟩, .string ⟨#[97, 110, 115, 119, 101, 114]⟩, .string ⟨#[109, 111, 116, 105, 111, 110]⟩, .string ⟨#[111, 114, 100, 101, 114]⟩, .string ⟨#[97, 112, 112, 101, 97, 108]⟩, .string ⟨#[108, 97, 112, 115, 101]⟩] 9))).cell? ⟨w.heap.size, j, none⟩ = some (.string (kindF j)) := by
    simp only [World.cell?, alloc_new, hcj, Option.isSome_none, Bool.false_eq_true, if_false]
  clear ha hb hcj
  generalize hS : kindF j = S at *
  clear hS
  go_enter Try.func67, Try.ntmps67
  go_wp2_with fail
  refine (HA.out _).mono ?_
  rintro e w1 ⟨rfl, rfl⟩
  go_wp2_with fail
  go_ret
  exact ⟨rfl, HB.out⟩

/-- The fact of event e with the number i. -/
def factE (e i : Int) : Fc := ⟨around e 6, kindF (around (e / 7) 6).toNat, 739616 + around e 60, around i 3, around i 3, around e 100⟩
theorem factE_ok (e i : Int) : FcOk (factE e i) := by
  have h1 := around_lo e 6 (by omega)
  have h2 := around_hi e 6 (by omega)
  have h3 := around_lo e 60 (by omega)
  have h4 := around_hi e 60 (by omega)
  have h5 := around_lo i 3 (by omega)
  have h6 := around_hi i 3 (by omega)
  have h7 := around_lo e 100 (by omega)
  have h8 := around_hi e 100 (by omega)
  constructor <;> simp only [factE] <;> first | exact kindF_word _ | omega

set_option maxHeartbeats 2000000 in
theorem fact_any (e q i : Int) (v : Value) (w : World) (hv : IsInts w v [e, q, e, i, i, e]) (he : I64 e) (hq : I64 q) (hi : I64 i) (heq : q = e / 7) :
    Calls Try.prog 57 #[v] w fun r w' => r = .returned (.agg (fcE (factE e i)).toArray) ∧ Below w.heap.size w w' := by
  have hall : ∀ x ∈ [e, q, e, i, i, e], I64 x := by
    intro x hx
    simp at hx
    rcases hx with rfl | rfl | rfl | rfl | rfl | rfl <;> assumption
  have HP0 : Hid (∀ w7, Below w.heap.size w w7 → Calls Try.prog 43 #[v, .int .i64 0, .int .i64 6] w7 fun r w' => r = .returned (.int .i64 (around e 6)) ∧ w7 = w') := fun w7 h7 => pick_any _ v 0 6 w7 (hv.below h7) hall (by omega) (by omega)
  have HP1 : Hid (∀ w7, Below w.heap.size w w7 → Calls Try.prog 43 #[v, .int .i64 1, .int .i64 6] w7 fun r w' => r = .returned (.int .i64 (around q 6)) ∧ w7 = w') := fun w7 h7 => pick_any _ v 1 6 w7 (hv.below h7) hall (by omega) (by omega)
  have HP2 : Hid (∀ w7, Below w.heap.size w w7 → Calls Try.prog 43 #[v, .int .i64 2, .int .i64 60] w7 fun r w' => r = .returned (.int .i64 (around e 60)) ∧ w7 = w') := fun w7 h7 => pick_any _ v 2 60 w7 (hv.below h7) hall (by omega) (by omega)
  have HP3 : Hid (∀ w7, Below w.heap.size w w7 → Calls Try.prog 43 #[v, .int .i64 3, .int .i64 3] w7 fun r w' => r = .returned (.int .i64 (around i 3)) ∧ w7 = w') := fun w7 h7 => pick_any _ v 3 3 w7 (hv.below h7) hall (by omega) (by omega)
  have HP4 : Hid (∀ w7, Below w.heap.size w w7 → Calls Try.prog 43 #[v, .int .i64 4, .int .i64 3] w7 fun r w' => r = .returned (.int .i64 (around i 3)) ∧ w7 = w') := fun w7 h7 => pick_any _ v 4 3 w7 (hv.below h7) hall (by omega) (by omega)
  have HP5 : Hid (∀ w7, Below w.heap.size w w7 → Calls Try.prog 43 #[v, .int .i64 5, .int .i64 100] w7 fun r w' => r = .returned (.int .i64 (around e 100)) ∧ w7 = w') := fun w7 h7 => pick_any _ v 5 100 w7 (hv.below h7) hall (by omega) (by omega)
  obtain ⟨j, hj⟩ : ∃ j : Nat, around q 6 = j := ⟨(around q 6).toNat, by have := around_lo q 6 (by omega); omega⟩
  have hj6 : j < 6 := by have := around_hi q 6 (by omega); omega
  have HKI := Lib.hid (fun w7 => kind_any j hj6 w7)
  have hfe : factE e i = ⟨around e 6, kindF j, 739616 + around e 60, around i 3, around i 3, around e 100⟩ := by
    unfold factE; rw [← heq, hj, Int.toNat_natCast]
  rw [hj] at HP1
  rw [hfe]
  have ha60 := around_lo e 60 (by omega)
  have hb60 := around_hi e 60 (by omega)
  have hwr : IntKind.i64.wrap (739616 + around e 60) = 739616 + around e 60 := by rw [IntKind.wrap_i64]; omega
  obtain ⟨a, cap, rfl, -, -, -⟩ := hv.open
  generalize around e 6 = A0 at *
  generalize around e 60 = A2 at *
  generalize around i 3 = A3 at *
  generalize around e 100 = A5 at *
  generalize kindF j = KD at *
  clear hv hall hj hfe
  obtain ⟨P, hP⟩ : ∃ P, P = w.heap.size := ⟨_, rfl⟩
  obtain ⟨W0, hW0⟩ : ∃ W, W = w.alloc (.cells #[.int .i64 0, .string ⟨#[]⟩, .int .i64 0, .int .i64 0, .int .i64 0, .int .i64 0] 72) := ⟨_, rfl⟩
  have hb0 : Below w.heap.size w W0 := by rw [hW0]; exact (Below.refl _ _).alloc (Nat.le_refl _) _
  have hrow0 : W0.heap[P]? = some (.cells #[.int .i64 0, .string ⟨#[]⟩, .int .i64 0, .int .i64 0, .int .i64 0, .int .i64 0] 72 (0, 0)) := by rw [hW0, hP]; exact alloc_new _ _
  have HP := Lib.hid hP
  have HW0 := Lib.hid hW0
  have HB0 := Lib.hid hb0
  have HR0 := Lib.hid hrow0
  clear hP hW0 hb0 hrow0
  unfold fcE
  go_enter Try.func57, Try.ntmps57
  go_wp2_with fail
  rw [← HW0.out, ← HP.out]
  refine (HP0.out W0 HB0.out).mono ?_
  rintro r w9 ⟨rfl, rfl⟩
  go_wp2_with fail
  refine (HP1.out W0 HB0.out).mono ?_
  rintro r w9 ⟨rfl, rfl⟩
  go_wp2_with fail
  refine (HKI.out W0).mono ?_
  rintro r w2 ⟨rfl, hb2⟩
  have HB2 := Lib.hid (Below.to HB0.out hb2 HB0.out.size)
  have HR2 := Lib.hid ((hb2.block P (Array.getElem?_eq_some_iff.1 HR0.out).1).trans HR0.out)
  clear hb2
  go_wp2_with fail
  refine (HP2.out w2 HB2.out).mono ?_
  rintro r w9 ⟨rfl, rfl⟩
  obtain ⟨Q, hQ⟩ : ∃ Q, Q = w2.heap.size := ⟨_, rfl⟩
  obtain ⟨W3, hW3⟩ : ∃ W, W = w2.alloc (.cells #[.int .i64 A0, .string KD, .int .i64 (739616 + A2), .int .i64 0, .int .i64 0, .int .i64 0] 72) := ⟨_, rfl⟩
  have hb3 : Below w.heap.size w W3 := by rw [hW3]; exact Below.to HB2.out ((Below.refl _ _).alloc (Nat.le_refl _) _) HB2.out.size
  have hrow3 : W3.heap[Q]? = some (.cells #[.int .i64 A0, .string KD, .int .i64 (739616 + A2), .int .i64 0, .int .i64 0, .int .i64 0] 72 (0, 0)) := by rw [hW3, hQ]; exact alloc_new _ _
  have HQ := Lib.hid hQ
  have HW3 := Lib.hid hW3
  have HB3 := Lib.hid hb3
  have HR3 := Lib.hid hrow3
  clear hQ hW3 hb3 hrow3
  go_wp2_with fail
  rw [← HW3.out, ← HQ.out]
  refine (HP3.out W3 HB3.out).mono ?_
  rintro r w9 ⟨rfl, rfl⟩
  have hc3 : W3.cell? ⟨Q, 3, none⟩ = some (.int .i64 0) := by simp [World.cell?, HR3.out]
  have hf3 : W3.frozen? ⟨Q, 3, none⟩ = false := by simp [World.frozen?, HR3.out]
  have hQw : w.heap.size ≤ Q := by rw [HQ.out]; exact HB2.out.size
  obtain ⟨W4, hW4⟩ : ∃ W, W = W3.setCell ⟨Q, 3, none⟩ (.int .i64 A3) := ⟨_, rfl⟩
  have hrow4 : W4.heap[Q]? = some (.cells #[.int .i64 A0, .string KD, .int .i64 (739616 + A2), .int .i64 A3, .int .i64 0, .int .i64 0] 72 (0, 0)) := by rw [hW4, heap_setCell_same _ _ _ _ _ _ HR3.out]; rfl
  have hb4 : Below w.heap.size w W4 := by rw [hW4]; exact HB3.out.setCell (p := ⟨Q, 3, none⟩) hQw _
  have HR4 := Lib.hid hrow4
  have HB4 := Lib.hid hb4
  have HW4 := Lib.hid hW4
  clear hrow4 hb4 hW4
  go_wp2_with fail
  rw [← HW4.out]
  refine (HP4.out W4 HB4.out).mono ?_
  rintro r w9 ⟨rfl, rfl⟩
  have hc4 : W4.cell? ⟨Q, 4, none⟩ = some (.int .i64 0) := by simp [World.cell?, HR4.out]
  have hf4 : W4.frozen? ⟨Q, 4, none⟩ = false := by simp [World.frozen?, HR4.out]
  obtain ⟨W5, hW5⟩ : ∃ W, W = W4.setCell ⟨Q, 4, none⟩ (.int .i64 A3) := ⟨_, rfl⟩
  have hrow5 : W5.heap[Q]? = some (.cells #[.int .i64 A0, .string KD, .int .i64 (739616 + A2), .int .i64 A3, .int .i64 A3, .int .i64 0] 72 (0, 0)) := by rw [hW5, heap_setCell_same _ _ _ _ _ _ HR4.out]; rfl
  have hb5 : Below w.heap.size w W5 := by rw [hW5]; exact HB4.out.setCell (p := ⟨Q, 4, none⟩) hQw _
  have HR5 := Lib.hid hrow5
  have HB5 := Lib.hid hb5
  have HW5 := Lib.hid hW5
  clear hrow5 hb5 hW5
  go_wp2_with fail
  rw [← HW5.out]
  refine (HP5.out W5 HB5.out).mono ?_
  rintro r w9 ⟨rfl, rfl⟩
  have hc5 : W5.cell? ⟨Q, 5, none⟩ = some (.int .i64 0) := by simp [World.cell?, HR5.out]
  have hf5 : W5.frozen? ⟨Q, 5, none⟩ = false := by simp [World.frozen?, HR5.out]
  obtain ⟨W6, hW6⟩ : ∃ W, W = W5.setCell ⟨Q, 5, none⟩ (.int .i64 A5) := ⟨_, rfl⟩
  have hrow6 : W6.heap[Q]? = some (.cells #[.int .i64 A0, .string KD, .int .i64 (739616 + A2), .int .i64 A3, .int .i64 A3, .int .i64 A5] 72 (0, 0)) := by rw [hW6, heap_setCell_same _ _ _ _ _ _ HR5.out]; rfl
  have hb6 : Below w.heap.size w W6 := by rw [hW6]; exact HB5.out.setCell (p := ⟨Q, 5, none⟩) hQw _
  have hP0 : P < w2.heap.size := (Array.getElem?_eq_some_iff.1 HR2.out).1
  have hPQ : P ≠ Q := by rw [HQ.out]; omega
  have hrp : W6.heap[P]? = some (.cells #[.int .i64 0, .string ⟨#[]⟩, .int .i64 0, .int .i64 0, .int .i64 0, .int .i64 0] 72 (0, 0)) := by
    rw [hW6, heap_setCell_other _ _ _ _ hPQ, HW5.out, heap_setCell_other _ _ _ _ hPQ, HW4.out, heap_setCell_other _ _ _ _ hPQ, HW3.out]
    exact ((Below.refl w2.heap.size w2).alloc (Nat.le_refl _) _).block P hP0 |>.trans HR2.out
  have HRP := Lib.hid hrp
  have HR6 := Lib.hid hrow6
  have HW6 := Lib.hid hW6
  have hPw : w.heap.size ≤ P := Nat.le_of_eq HP.out.symm
  have hfin : Below w.heap.size w (W6.setRow P #[.int .i64 A0, .string KD, .int .i64 (739616 + A2), .int .i64 A3, .int .i64 A3, .int .i64 A5]) := below_setRow hb6 P _ hPw
  have HF := Lib.hid hfin
  have HRF : Hid ((W6.setRow P #[.int .i64 A0, .string KD, .int .i64 (739616 + A2), .int .i64 A3, .int .i64 A3, .int .i64 A5]).heap[P]? = some (.cells #[.int .i64 A0, .string KD, .int .i64 (739616 + A2), .int .i64 A3, .int .i64 A3, .int .i64 A5] 72 (0, 0))) := setRow_heap W6 P _ _ _ _ hrp
  clear hrp hrow6 hW6 hfin hb6
  go_wp2_with
    (first
      | (rw [← HW6.out]; refine wpList_load_row rfl 72 _ rfl Q rfl 72 #[.int .i64 A0, .string KD, .int .i64 (739616 + A2), .int .i64 A3, .int .i64 A3, .int .i64 A5] (0, 0) _ HR6.out Try.underlying72 rfl (by rw [infoFc]; rfl) ?_)
      | (refine wpList_store_row rfl 72 _ _ rfl P #[.int .i64 A0, .string KD, .int .i64 (739616 + A2), .int .i64 A3, .int .i64 A3, .int .i64 A5] rfl rfl 72 _ HRP.out (by rw [infoFc]; rfl) rfl (cells_all _ (by intro v hv; simp at hv; rcases hv with rfl | rfl | rfl | rfl | rfl | rfl <;> rfl)) ?_))
  refine bodyPost_ret (results_cell_row rfl _ _ P 72 #[.int .i64 A0, .string KD, .int .i64 (739616 + A2), .int .i64 A3, .int .i64 A3, .int .i64 A5] (0, 0) _ rfl HRF.out Try.underlying72 rfl (by rw [infoFc]; rfl)) rfl ?_
  exact ⟨rfl, HF.out⟩

end Go.Proofs.Ytgfnelpfoegdaaa
