/-
  Package holiday: the day that a rule names in a year, before its move (first and the four kinds).
-/
import Derived.Test.YtkcmkpljpmfiaaaDoorHoD
namespace Go.Proofs.YtkcmkpljpmfiaaaDoor
open Go.RowKit

/-- A holiday's rule. -/
structure Hol where
  kind : Int
  mon : Int
  dom : Int
  wk : Int
  nth : Int
  off : Int
  mov : Int
deriving Inhabited
def hoE (h : Hol) : List Value := [.int .i64 h.kind, .int .i64 h.mon, .int .i64 h.dom, .int .i64 h.wk, .int .i64 h.nth, .int .i64 h.off, .int .i64 h.mov, .int .i64 1, .int .i64 9999]
theorem hoE_len (h : Hol) : (hoE h).length = 9 := rfl
/-- What the generator gives. -/
structure HolIn (h : Hol) : Prop where
  k1 : 1 ≤ h.kind
  k4 : h.kind ≤ 4
  m1 : h.kind ≠ 4 → 1 ≤ h.mon
  m4 : h.kind ≠ 4 → h.mon ≤ 4
  d1 : h.kind = 1 → 1 ≤ h.dom
  d31 : h.kind = 1 → h.dom ≤ 31
  w0 : 0 ≤ h.wk
  w6 : h.wk ≤ 6
  n1 : h.kind = 2 → 1 ≤ h.nth
  n5 : h.kind = 2 → h.nth ≤ 5
  o0 : -10 ≤ h.off
  o1 : h.off ≤ 50
  v0 : 0 ≤ h.mov
  v2 : h.mov ≤ 2

theorem wrI {x : Int} (h : -9223372036854775808 ≤ x ∧ x ≤ 9223372036854775807) : IntKind.i64.wrap x = x := by rw [IntKind.wrap_i64]; omega
theorem ret_ii {a b c d : Int} (h : a = b) (h2 : c = d) : Ending.returned (.tuple #[.int .i64 a, .int .i64 c]) = .returned (.tuple #[.int .i64 b, .int .i64 d]) := by rw [h, h2]
theorem ret_ib {a b : Int} {c d : Bool} (h : a = b) (h2 : c = d) : Ending.returned (.tuple #[.int .i64 a, .bool c]) = .returned (.tuple #[.int .i64 b, .bool d]) := by rw [h, h2]
/-- The first day of a month, and its first day of a weekday. -/
def firD (y m : Int) : Int := numF y m 1
def firF (y m k : Int) : Int := firD y m + (k - firD y m % 7 + 7) % 7
theorem firD_in {y m : Int} (hy : 2000 ≤ y ∧ y ≤ 2100) (hm : 1 ≤ m ∧ m ≤ 4) : 729000 ≤ firD y m ∧ firD y m ≤ 770000 := numF_in hy (by omega) (by omega)
theorem firF_in {y m k : Int} (hy : 2000 ≤ y ∧ y ≤ 2100) (hm : 1 ≤ m ∧ m ≤ 4) : firD y m ≤ firF y m k ∧ firF y m k ≤ firD y m + 6 := by
  unfold firF; omega
theorem dayF_first {y m : Int} (hm : 1 ≤ m ∧ m ≤ 4) : dayF y m 1 = (firD y m, 0) := by
  have h := lenF_in (y := y) hm
  unfold dayF
  rw [if_neg (by omega)]
  rfl

set_option maxHeartbeats 1000000 in
theorem first_any (k m d wk n o v y : Int) (w : World) (hT : Tabs w) (hy : 2000 ≤ y ∧ y ≤ 2100) (hm : 1 ≤ m ∧ m ≤ 4) (hk : 0 ≤ wk ∧ wk ≤ 6) :
    Calls Tryd.prog 63 #[.agg #[.int .i64 k, .int .i64 m, .int .i64 d, .int .i64 wk, .int .i64 n, .int .i64 o, .int .i64 v, .int .i64 1, .int .i64 9999], .int .i64 y] w fun e w' => e = .returned (.tuple #[.int .i64 (firD y m), .int .i64 (firF y m wk)]) ∧ Below w.heap.size w w' := by
  obtain ⟨W1, hW1⟩ : ∃ W, W = w.alloc (.cells #[.int .i64 k, .int .i64 m, .int .i64 d, .int .i64 wk, .int .i64 n, .int .i64 o, .int .i64 v, .int .i64 1, .int .i64 9999] 48) := ⟨_, rfl⟩
  obtain ⟨P, hP⟩ : ∃ P, P = w.heap.size := ⟨_, rfl⟩
  have hb1 : Below w.heap.size w W1 := by rw [hW1]; exact (Below.refl _ _).alloc (Nat.le_refl _) _
  have hrow : W1.heap[P]? = some (.cells #[.int .i64 k, .int .i64 m, .int .i64 d, .int .i64 wk, .int .i64 n, .int .i64 o, .int .i64 v, .int .i64 1, .int .i64 9999] 48 (0, 0)) := by
    rw [hW1, hP]; show (w.heap.push _)[w.heap.size]? = _; simp
  have hlt : P < W1.heap.size := (Array.getElem?_eq_some_iff.1 hrow).1
  have HDA := day_any y m 1 W1 (hT.below hb1) hy hm (by omega)
  rw [dayF_first hm] at HDA
  have HDA := Lib.hid HDA
  have hfi := firD_in hy hm
  have hff := firF_in (k := wk) hy hm
  have hfe : firF y m wk = firD y m + (wk - firD y m % 7 + 7) % 7 := rfl
  obtain ⟨D, hD⟩ : ∃ D, firD y m = D := ⟨_, rfl⟩
  rw [hD] at HDA hfi hff hfe ⊢
  obtain ⟨R, hR⟩ : ∃ R, firF y m wk = R := ⟨_, rfl⟩
  rw [hR] at hfe ⊢
  have HEQ : Hid (IntKind.i64.wrap (D + (IntKind.i64.wrap (IntKind.i64.wrap (wk - D % 7) + 7)).tmod 7) = R) := by
    show _ = _
    have e1 : IntKind.i64.wrap (wk - D % 7) = wk - D % 7 := wrI (by omega)
    have e2 : IntKind.i64.wrap (wk - D % 7 + 7) = wk - D % 7 + 7 := wrI (by omega)
    rw [e1, e2, Int.tmod_eq_emod_of_nonneg (by omega), wrI (by omega), hfe]
  have HWK := Lib.hid (fun w7 => weekday_any D w7 (by omega))
  have HRW : Hid (∀ w', Below W1.heap.size W1 w' → w'.cell? ⟨P, 3, none⟩ = some (.int .i64 wk)) := fun w' hb => by
    have h2 := (hb.block P hlt).trans hrow
    simp [World.cell?, h2]
  have HB1 := Lib.hid hb1
  have HW1 := Lib.hid hW1
  have HP := Lib.hid hP
  obtain ⟨hk1, hk2⟩ := hk
  obtain ⟨hf1, hf2⟩ := hfi
  clear hT hb1 hrow hlt hW1 hP hD hff hfe hy hm hR
  go_enter Tryd.func63, Tryd.ntmps63
  go_wp2_with fail
  rw [← HW1.out, ← HP.out]
  refine HDA.out.mono ?_
  rintro e w2 ⟨rfl, hb2⟩
  have c3 := HRW.out w2 hb2
  have HB2 := Lib.hid (Below.to HB1.out hb2 HB1.out.size)
  clear hb2
  go_wp2_with fail
  go_region_law
    (go_simp
     go_at_call 26
     refine (HWK.out _).mono ?_
     rintro e w3 ⟨rfl, h2⟩
     obtain rfl := h2.symm)
  all_goals
    go_wp2_with fail
    go_ret2
    exact ⟨ret_ii rfl HEQ.out, HB2.out.drew⟩

end Go.Proofs.YtkcmkpljpmfiaaaDoor
