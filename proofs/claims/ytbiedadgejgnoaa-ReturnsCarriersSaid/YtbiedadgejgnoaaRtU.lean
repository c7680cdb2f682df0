/-
  The examples of chapter 20: lives returns true.
-/
import Derived.Test.YtbiedadgejgnoaaRtY
import Derived.Test.YtbiedadgejgnoaaRtO
namespace Go.Proofs.Ytbiedadgejgnoaa
open Go.RowKit

theorem IsRts.al {X : World} {v : Value} {l : List Ret} (h : IsRts X v l) (o : Obj) : IsRts (X.alloc o) v l := h.below ((Below.refl _ _).alloc (Nat.le_refl _) o)
theorem IsSps.al {X : World} {v : Value} {l : List (Int × Int)} (h : IsSps X v l) (o : Obj) : IsSps (X.alloc o) v l := h.below ((Below.refl _ _).alloc (Nat.le_refl _) o)
theorem exOk {l : List Ret} (h : ∀ r ∈ l, r = exFirst ∨ r = exNever ∨ r = ⟨0, 1, 105, 110⟩ ∨ r = ⟨0, 2, 0, 104⟩) : RetsOk exC.length l := fun r hr => by
  rcases h r hr with rfl | rfl | rfl | rfl
  · exact ⟨⟨by decide, by decide⟩, .inl (by decide)⟩
  · exact ⟨⟨by decide, by decide⟩, .inr (.inr (by decide))⟩
  · exact ⟨⟨by decide, by decide⟩, .inl (by decide)⟩
  · exact ⟨⟨by decide, by decide⟩, .inr (.inl (by decide))⟩
theorem exCok : CarOk exC := fun c hc => by
  simp [exC] at hc
  rcases hc with rfl | rfl <;> decide

/-- What Served and Allowed say of the examples. -/
theorem ex_served (l : List Ret) (out : List (Int × Int)) (nv : Bool) (ha : Alw l exC 100 out nv) (x : Int) (b : Bool) (hs : servedF out nv = (x, b)) (v u : Value) (w : World) (hx : IsRts w v l) (hy : IsSps w u exC) (hl : l.length ≤ 32) (hr : RetsOk exC.length l) :
    Calls Try.prog 20 #[v, u, .int .i64 100] w fun e w' => e = .returned (.tuple #[.int .i64 x, .bool b]) ∧ Below w.heap.size w w' := by
  refine (served_any l exC v u 100 w hx hy hl (by decide) hr exCok (by omega) (by omega)).mono ?_
  rintro e w' ⟨x', b', rfl, out', nv', h1, h2, hb⟩
  obtain ⟨rfl, rfl⟩ := Alw.eq h1.out ha (fun _ _ => rfl)
  have h3 := h2.out
  rw [hs] at h3
  cases h3
  exact ⟨rfl, hb⟩
theorem ex_allowed (l : List Ret) (out : List (Int × Int)) (nv : Bool) (ha : Alw l exC 100 out nv) (v u : Value) (w : World) (hx : IsRts w v l) (hy : IsSps w u exC) (hl : l.length ≤ 32) (hr : RetsOk exC.length l) :
    Calls Try.prog 18 #[v, u, .int .i64 100] w fun e w' => ∃ v', e = .returned (.tuple #[v', .bool nv]) ∧ IsSps w' v' out ∧ Below w.heap.size w w' := by
  refine (allowed_any l exC v u 100 w hx hy hl (by decide) hr exCok (by omega) (by omega)).mono ?_
  rintro e w' ⟨v', nv', rfl, out', h1, h2, hb⟩
  obtain ⟨rfl, rfl⟩ := Alw.eq h1.out ha (fun _ _ => rfl)
  exact ⟨v', rfl, h2, hb⟩

set_option maxHeartbeats 4000000 in
set_option maxRecDepth 100000 in
theorem lives_any (w : World) : Calls Try.prog 17 #[] w fun e w' => e = .returned (.bool true) ∧ Below w.heap.size w w' := by
  have H1 : Hid (∀ v u W, IsRts W v exOne → IsSps W u exC → Calls Try.prog 20 #[v, u, .int .i64 100] W fun e w' => e = .returned (.tuple #[.int .i64 105, .bool true]) ∧ Below W.heap.size W w') := fun v u W h1 h2 => ex_served _ _ _ alw_one 105 true rfl v u W h1 h2 (by decide) (exOk (by simp [exOne]))
  have H2 : Hid (∀ v u W, IsRts W v exTwo → IsSps W u exC → Calls Try.prog 20 #[v, u, .int .i64 100] W fun e w' => e = .returned (.tuple #[.int .i64 105, .bool true]) ∧ Below W.heap.size W w') := fun v u W h1 h2 => ex_served _ _ _ alw_two 105 true rfl v u W h1 h2 (by decide) (exOk (by simp [exTwo]))
  have H3 : Hid (∀ v u W, IsRts W v exThree → IsSps W u exC → Calls Try.prog 20 #[v, u, .int .i64 100] W fun e w' => e = .returned (.tuple #[.int .i64 0, .bool false]) ∧ Below W.heap.size W w') := fun v u W h1 h2 => ex_served _ _ _ alw_three 0 false rfl v u W h1 h2 (by decide) (exOk (by simp [exThree]))
  have H4 : Hid (∀ v u W, IsRts W v exFour → IsSps W u exC → Calls Try.prog 20 #[v, u, .int .i64 100] W fun e w' => e = .returned (.tuple #[.int .i64 105, .bool true]) ∧ Below W.heap.size W w') := fun v u W h1 h2 => ex_served _ _ _ alw_four 105 true rfl v u W h1 h2 (by decide) (exOk (by simp [exFour]))
  have H5 : Hid (∀ v u W, IsRts W v exThree → IsSps W u exC → Calls Try.prog 18 #[v, u, .int .i64 100] W fun e w' => ∃ v', e = .returned (.tuple #[v', .bool true]) ∧ IsSps w' v' [(103, 105)] ∧ Below W.heap.size W w') := fun v u W h1 h2 => ex_allowed _ _ _ alw_three v u W h1 h2 (by decide) (exOk (by simp [exThree]))
  have H6 : Hid (∀ v u W, IsRts W v [] → IsSps W u exC → Calls Try.prog 18 #[v, u, .int .i64 100] W fun e w' => ∃ v', e = .returned (.tuple #[v', .bool true]) ∧ IsSps w' v' [(100, 3652058)] ∧ Below W.heap.size W w') := fun v u W h1 h2 => ex_allowed _ _ _ (alw_nil (by omega) exc_nil) v u W h1 h2 (by decide) (exOk (by simp))
  obtain ⟨W0, hW0⟩ : ∃ W0, W0 = ((((((w.alloc (.cells #[.int .i64 0, .int .i64 0, .int .i64 0, .int .i64 1] 40)).alloc (.cells #[.int .i64 0, .int .i64 1, .int .i64 103, .int .i64 105] 30)).alloc (.cells #[.int .i64 1, .int .i64 3, .int .i64 0, .int .i64 0] 30)).alloc (.cells #[.int .i64 0, .int .i64 1, .int .i64 103, .int .i64 105] 30)).alloc (.cells #[.int .i64 0, .int .i64 1, .int .i64 103, .int .i64 105, .int .i64 1, .int .i64 3, .int .i64 0, .int .i64 0] 30)).alloc (.cells #[.int .i64 0, .int .i64 1, .int .i64 103, .int .i64 105, .int .i64 1, .int .i64 3, .int .i64 0, .int .i64 0, .int .i64 1, .int .i64 3, .int .i64 0, .int .i64 0] 30)).alloc (.cells #[.int .i64 0, .int .i64 1, .int .i64 103, .int .i64 105, .int .i64 0, .int .i64 1, .int .i64 105, .int .i64 110, .int .i64 0, .int .i64 2, .int .i64 0, .int .i64 104] 30) := ⟨_, rfl⟩
  have HC : Hid (IsSps W0 (.slice (some ⟨w.heap.size, 0, none⟩) 2 2) exC) := by
    show IsSps _ _ _
    rw [hW0]
    exact ((((((spans_lit w exC 40 (by decide)).al _).al _).al _).al _).al _).al _
  have HO : Hid (IsRts W0 (.slice (some ⟨w.heap.size + 1 + 1 + 1, 0, none⟩) 1 1) exOne) := by
    show IsRts _ _ _
    rw [hW0]
    have h := rets_lit (((w.alloc (.cells #[.int .i64 0, .int .i64 0, .int .i64 0, .int .i64 1] 40)).alloc (.cells #[.int .i64 0, .int .i64 1, .int .i64 103, .int .i64 105] 30)).alloc (.cells #[.int .i64 1, .int .i64 3, .int .i64 0, .int .i64 0] 30)) exOne 30 (by decide)
    rw [World.size_alloc, World.size_alloc, World.size_alloc] at h
    exact ((h.al _).al _).al _
  have HT : Hid (IsRts W0 (.slice (some ⟨w.heap.size + 1 + 1 + 1 + 1, 0, none⟩) 2 2) exTwo) := by
    show IsRts _ _ _
    rw [hW0]
    have h := fun a b c d => rets_lit ((((w.alloc a).alloc b).alloc c).alloc d) exTwo 30 (by decide)
    simp only [World.size_alloc] at h
    exact ((h _ _ _ _).al _).al _
  have HTH : Hid (IsRts W0 (.slice (some ⟨w.heap.size + 1 + 1 + 1 + 1 + 1, 0, none⟩) 3 3) exThree) := by
    show IsRts _ _ _
    rw [hW0]
    have h := fun a b c d e => rets_lit (((((w.alloc a).alloc b).alloc c).alloc d).alloc e) exThree 30 (by decide)
    simp only [World.size_alloc] at h
    exact (h _ _ _ _ _).al _
  have HF : Hid (IsRts W0 (.slice (some ⟨w.heap.size + 1 + 1 + 1 + 1 + 1 + 1, 0, none⟩) 3 3) exFour) := by
    show IsRts _ _ _
    rw [hW0]
    have h := fun a b c d e f => rets_lit ((((((w.alloc a).alloc b).alloc c).alloc d).alloc e).alloc f) exFour 30 (by decide)
    simp only [World.size_alloc] at h
    exact h _ _ _ _ _ _
  have HB0 : Hid (Below w.heap.size w W0) := by
    show Below _ _ _
    rw [hW0]
    exact (((((((Below.refl _ _).alloc (Nat.le_refl _) _).alloc (by simp) _).alloc (by simp; omega) _).alloc (by simp; omega) _).alloc (by simp; omega) _).alloc (by simp; omega) _).alloc (by simp; omega) _
  have HW0 := Lib.hid hW0
  clear hW0
  go_enter Try.func17, Try.ntmps17
  go_wp2_with fail
  rw [← HW0.out]
  refine (H1.out _ _ _ HO.out HC.out).mono ?_
  rintro e w1 ⟨rfl, b1⟩
  have B1 := Lib.hid b1
  clear b1
  go_wp2_with fail
  refine (H2.out _ _ _ (HT.out.below B1.out) (HC.out.below B1.out)).mono ?_
  rintro e w2 ⟨rfl, b2⟩
  have B2 := Lib.hid (Below.to B1.out b2 B1.out.size)
  clear b2
  go_wp2_with fail
  refine (H3.out _ _ _ (HTH.out.below B2.out) (HC.out.below B2.out)).mono ?_
  rintro e w3 ⟨rfl, b3⟩
  have B3 := Lib.hid (Below.to B2.out b3 B2.out.size)
  clear b3
  go_wp2_with fail
  refine (H4.out _ _ _ (HF.out.below B3.out) (HC.out.below B3.out)).mono ?_
  rintro e w4 ⟨rfl, b4⟩
  have B4 := Lib.hid (Below.to B3.out b4 B3.out.size)
  clear b4
  go_wp2_with fail
  refine (H5.out _ _ _ (HTH.out.below B4.out) (HC.out.below B4.out)).mono ?_
  rintro e w5 ⟨v5, rfl, hv5, b5⟩
  have B5 := Lib.hid (Below.to B4.out b5 B4.out.size)
  have V5 := Lib.hid hv5
  obtain ⟨a5, c5, rfl, -, -, -⟩ := hv5.open
  clear b5 hv5
  go_wp2_with fail
  refine (H6.out _ _ _ (IsRts.nil _ _ _) (HC.out.below B5.out)).mono ?_
  rintro e w6 ⟨v6, rfl, hv6, b6⟩
  have V5' := Lib.hid (V5.out.below b6)
  have B6 := Lib.hid (Below.to B5.out b6 B5.out.size)
  have V6 := Lib.hid hv6
  obtain ⟨a6, c6, rfl, -, -, -⟩ := hv6.open
  clear b6 hv6
  go_wp2_with fail
  have L1 := Lib.hid (spans_lit w6 [(103, 105)] 44 (by decide))
  refine (sameSpans_eq [(103, 105)] _ _ _ (V5'.out.al _) L1.out).mono ?_
  rintro e w7 ⟨rfl, b7⟩
  have B6a : Hid (Below w6.heap.size w6 (w6.alloc (.cells (spCells [(103, 105)]).toArray 44))) := (Below.refl _ _).alloc (Nat.le_refl _) _
  have B7 := Lib.hid (Below.to B6a.out b7 (B6a.out.size))
  have V7 := Lib.hid (V6.out.below B7.out)
  clear b7
  go_wp2_with fail
  have L2 := Lib.hid (spans_lit w7 [(100, 3652058)] 44 (by decide))
  refine (sameSpans_eq [(100, 3652058)] _ _ _ (V7.out.al _) L2.out).mono ?_
  rintro e w8 ⟨rfl, b8⟩
  have B7a : Hid (Below w7.heap.size w7 (w7.alloc (.cells (spCells [(100, 3652058)]).toArray 44))) := (Below.refl _ _).alloc (Nat.le_refl _) _
  have B8 := Lib.hid (Below.to HB0.out (Below.to B6.out (Below.to B7.out (Below.to B7a.out b8 B7a.out.size) B7.out.size) B6.out.size) HB0.out.size)
  clear b8
  go_wp2_with fail
  go_ret
  exact ⟨rfl, B8.out⟩

end Go.Proofs.Ytbiedadgejgnoaa
