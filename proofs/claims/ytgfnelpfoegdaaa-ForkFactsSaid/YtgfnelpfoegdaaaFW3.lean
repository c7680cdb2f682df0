/-
  Contracts of the operations: with, Root, Add, Fork, Remand.
-/
import Derived.Test.YtgfnelpfoegdaaaFW1
import Derived.Test.YtgfnelpfoegdaaaFW2
import Derived.Deep.RegionHeld3
namespace Go.Proofs.Ytgfnelpfoegdaaa
open Go.RowKit

theorem with_full (l : List Br) (v : Value) (p c a : Int) (o : Bool) (w : World) (hx : IsBrs w v l) (hb : 256 ≤ l.length) :
    Calls Try.prog 45 #[v, .agg #[.int .i64 p, .int .i64 c,   .int .i64 a, .slice none 0 0, .bool o]] w fun e w' => e = .returned (.tuple #[.slice none 0 0, .int .i64 0, .int .i64 2]) ∧ Below w.heap.size w w' := by
  obtain ⟨ad, cap, rfl, hlen, hcap, hc⟩ := hx.open
  unfold maxLen at hlen
  clear hc hx
  generalize l.length = n at *
  have hb' : (256 : Int) ≤ (n : Int) := by omega
  clear hb hcap hlen
  go_enter Try.func45, Try.ntmps45
  go_wp2
  go_ret3
  exact ⟨rfl, (Below.refl _ _).alloc (Nat.le_refl _) _⟩

/-- The branch that 'with' boxes. -/
def boxed (p c a : Int) : Array Value := #[.int .i64 p, .int .i64 c, .int .i64 a, .slice none 0 0, .bool true]

set_option maxHeartbeats 2000000 in
set_option maxRecDepth 100000 in
theorem with_room (l : List Br) (v : Value) (p c a : Int) (o : Bool) (w : World) (hx : IsBrs w v l) (hb : l.length < 256) (ho : ∀ x ∈ l, x.own.length ≤ 1000000) :
    Calls Try.prog 45 #[v, .agg #[.int .i64 p, .int .i64 c, .int .i64 a, .slice none 0 0, .bool o]] w fun e w' =>
      ∃ v', e = .returned (.tuple #[v', .int .i64 l.length, .int .i64 0]) ∧ IsBrs w' v' (l ++ [⟨p, c, a, [], true⟩]) ∧ Below w.heap.size w w' := by
  obtain ⟨ad, cap, hv, hlen, hcap, hc⟩ := hx.open
  unfold maxLen at hlen
  subst hv
  clear hc
  have HX := Lib.hid hx; clear hx
  have hb' : (l.length : Int) < 256 := by omega
  have h63 : l.length + 1 ≤ maxLen := by unfold maxLen; omega
  have hby : (l.length + 1) * 56 ≤ 140737488355328 := by omega
  have H63 := Lib.hid h63
  have HBY := Lib.hid hby
  have HL := Lib.hid hb; clear hb hcap hlen h63 hby
  have HL6 := Lib.hid (show l.length ≤ 1000000 by have := HL.out; omega)
  have HO := Lib.hid ho; clear ho
  have hbA : Below w.heap.size w (w.alloc (.cells (boxed p c a) 26)).drew := ((Below.refl _ _).alloc (Nat.le_refl _) _).drew
  have hbB : Below w.heap.size w ((w.alloc (.cells (boxed p c a) 26)).alloc (.cells (boxed p c a) 26)).drew := (((Below.refl _ _).alloc (Nat.le_refl _) _).alloc (by simp) _).drew
  have HA := Lib.hid hbA
  have HB := Lib.hid hbB
  clear hbA hbB
  have hkA : Hid (∀ o, (w.alloc (.cells (boxed p c a) 26)).drew.cell? ⟨w.heap.size, o, none⟩ = (boxed p c a)[o]?) := cells_alloc w _ _
  have hkB : Hid (∀ o, ((w.alloc (.cells (boxed p c a) 26)).alloc (.cells (boxed p c a) 26)).drew.cell? ⟨w.heap.size, o, none⟩ = (boxed p c a)[o]?) := cells_below (cells_alloc w _ _) ((Below.refl (w.heap.size + 1) (w.alloc (.cells (boxed p c a) 26))).alloc (by simp) _).drew (Nat.lt_succ_self _)
  have hrB : Hid (Rd ((w.alloc (.cells (boxed p c a) 26)).alloc (.cells (boxed p c a) 26)).drew (.slice (some ⟨w.heap.size + 1, 0, none⟩) 1 1) 5 1 (brRow ⟨p, c, a, [], true⟩ (.slice none 0 0))) := by
    have := Rd.lit (w.alloc (.cells (boxed p c a) 26)) (boxed p c a) 26 5 1 rfl (by unfold maxLen; omega)
    rw [World.size_alloc] at this
    exact this
  have hr1 : Hid (∀ w1 : World, Rd (w1.alloc (.cells (boxed p c a) 26)) (.slice (some ⟨w1.heap.size, 0, none⟩) 1 1) 5 1 (brRow ⟨p, c, a, [], true⟩ (.slice none 0 0))) :=
    fun w1 => Rd.lit w1 (boxed p c a) 26 5 1 rfl (by unfold maxLen; omega)
  have hone : Hid (∀ u ∈ brRow ⟨p, c, a, [], true⟩ (.slice none 0 0), u.oneCell' = true) := brRow_one _ rfl
  go_enter Try.func45, Try.ntmps45
  go_wp2_with fail
  go_region_held3 (fun w' => w'.cell? ⟨w.heap.size, 0, none⟩ = some (.int .i64 p) ∧ w'.cell? ⟨w.heap.size, 1, none⟩ = some (.int .i64 c) ∧ w'.cell? ⟨w.heap.size, 2, none⟩ = some (.int .i64 a) ∧ w'.cell? ⟨w.heap.size, 3, none⟩ = some (.slice none 0 0) ∧ w'.cell? ⟨w.heap.size, 4, none⟩ = some (.bool true))
    (first
      | exact ⟨hk2 0, hk2 1, hk2 2, hk2 3, hk2 4⟩
      | exact ⟨hk1 0, hk1 1, hk1 2, hk1 3, hk1 4⟩
      | exact ⟨hk3 0, hk3 1, hk3 2, hk3 3, hk3 4⟩
      | go_keep)
    (first
      | (go_at_call 51
         refine (forkClone l _ _ (HX.out.below (by exact HA.out)) HL6.out HO.out).mono ?_
         rintro e w1 ⟨v1, us, rfl, hO1, hb1⟩
         have hs1 : w.heap.size < w1.heap.size := (by have h8 := hb1.size; simp at h8; omega)
         have hk1 : ∀ o, w1.cell? ⟨w.heap.size, o, none⟩ = (boxed p c a)[o]? := cells_below hkA.out hb1 (by simp)
         have hA1 : Hid (Below w.heap.size w w1) := Below.to HA.out hb1 (by simp)
         have hO2 : Hid (OwnBrs w1 w.heap.size 26 3 v1 l us l.length) := hO1.mono (by simp)
         have hn1 : Hid (v1.ownBlock ≠ some w.heap.size) := fun e1 => (by have h9 := (hO1.row.lt _ e1).1; simp at h9; omega)
         have hk3 : ∀ o, (w1.alloc (.cells (boxed p c a) 26)).cell? ⟨w.heap.size, o, none⟩ = (boxed p c a)[o]? := cells_grown hk1 (World.grownBy_alloc _ _ none) hs1 (by simp)
         clear hb1 hO1)
      | (go_at_call 51
         refine (forkClone l _ _ (HX.out.below (by exact HB.out)) HL6.out HO.out).mono ?_
         rintro e w1 ⟨v1, us, rfl, hO1, hb1⟩
         have hs1 : w.heap.size < w1.heap.size := (by have h8 := hb1.size; simp at h8; omega)
         have hk1 : ∀ o, w1.cell? ⟨w.heap.size, o, none⟩ = (boxed p c a)[o]? := cells_below hkB.out hb1 (by simp; omega)
         have hA1 : Hid (Below w.heap.size w w1) := Below.to HB.out hb1 (by simp; omega)
         have hO2 : Hid (OwnBrs w1 w.heap.size 26 3 v1 l us l.length) := hO1.mono (by simp; omega)
         have hn1 : Hid (v1.ownBlock ≠ some w.heap.size) := fun e1 => (by have h9 := (hO1.row.lt _ e1).1; simp at h9; omega)
         have hr2 : Hid (Rd w1 (.slice (some ⟨w.heap.size + 1, 0, none⟩) 1 1) 5 1 (brRow ⟨p, c, a, [], true⟩ (.slice none 0 0))) := hrB.out.below hb1
         clear hb1 hO1)
      | (refine step_append_rd (by rfl) _ _ 22 (by rfl) w.heap.size 26 _ 5 56 Try.underlying22 infoBr rfl (by decide) v1 l.length (brCells l us) (by rfl) ((hO2.out.below ((Below.refl _ _).alloc (Nat.le_refl _) _)).row) _ 1 (brRow ⟨p, c, a, [], true⟩ (.slice none 0 0)) (by rfl) (hr1.out _) hone.out H63.out HBY.out (by rw [World.size_alloc]; omega) ?_
         intro v2 w2 hv2 hg2
         have hk2 : ∀ o, w2.cell? ⟨w.heap.size, o, none⟩ = (boxed p c a)[o]? := cells_grown hk3 hg2 (by rw [World.size_alloc]; omega) hn1.out
         have hR : Hid (IsBrs w2 v2 (l ++ [⟨p, c, a, [], true⟩]) ∧ Below w.heap.size w w2) := OwnBrs.push_end (by decide) (hO2.out.below ((Below.refl _ _).alloc (Nat.le_refl _) (.cells (boxed p c a) 26))) (hA1.out.alloc (Nat.le_of_lt hs1) _) (by rw [World.size_alloc]; omega) hv2 hg2
         clear hv2 hg2)
      | (refine step_append_rd (by rfl) _ _ 22 (by rfl) w.heap.size 26 _ 5 56 Try.underlying22 infoBr rfl (by decide) v1 l.length (brCells l us) (by rfl) (hO2.out.row) _ 1 (brRow ⟨p, c, a, [], true⟩ (.slice none 0 0)) (by rfl) (hr2.out) hone.out H63.out HBY.out (Nat.le_of_lt hs1) ?_
         intro v2 w2 hv2 hg2
         have hk2 : ∀ o, w2.cell? ⟨w.heap.size, o, none⟩ = (boxed p c a)[o]? := cells_grown hk1 hg2 hs1 hn1.out
         have hR : Hid (IsBrs w2 v2 (l ++ [⟨p, c, a, [], true⟩]) ∧ Below w.heap.size w w2) := OwnBrs.push_end (by decide) hO2.out hA1.out (Nat.le_of_lt hs1) hv2 hg2
         clear hv2 hg2))
  all_goals
    go_wp2
    go_ret3
    exact ⟨_, rfl, hR.out.1, hR.out.2⟩

end Go.Proofs.Ytgfnelpfoegdaaa
