/-
  Contracts of Remand, of the program and of the reference.
-/
import Derived.Test.YtgfnelpfoegdaaaFW9
namespace Go.Proofs.Ytgfnelpfoegdaaa
open Go.RowKit

theorem remand1 (p c a b : Int) (u : Value) (o : Bool) (ua : Option Addr) (un uc : Nat) (hu : u = .slice ua un uc) (Bb : Nat) (w : World) (hB : w.cell? ⟨Bb, 0, none⟩ = some (.int .i64 b)) (hlt : Bb < w.heap.size) :
    Calls Try.prog 53 #[.agg #[.int .i64 p, .int .i64 c, .int .i64 a, u, .bool o], .pointer (some ⟨Bb, 0, none⟩)] w fun e w' => e = .returned (.bool (o && p == b)) ∧ Below w.heap.size w w' := by
  subst hu
  have hB1 : ∀ ob, (w.alloc ob).cell? ⟨Bb, 0, none⟩ = some (.int .i64 b) := fun ob => by rw [World.cell?_alloc_lt _ _ _ hlt]; exact hB
  cases o with
  | false =>
    go_enter Try.func53, Try.ntmps53
    go_wp2
    go_ret
    exact ⟨rfl, (Below.refl _ _).alloc (Nat.le_refl _) _⟩
  | true =>
    go_enter Try.func53, Try.ntmps53
    go_wp2
    go_ret
    exact ⟨rfl, (Below.refl _ _).alloc (Nat.le_refl _) _⟩

def asked (b : Int) (y : Br) : Bool := y.opn && y.parent == b

set_option maxRecDepth 100000 in
theorem indexFunc (l : List Br) (v : Value) (b : Int) (Bb : Nat) (w : World) (hl : IsBrs w v l) (hB : w.cell? ⟨Bb, 0, none⟩ = some (.int .i64 b)) (hlt : Bb < w.heap.size) :
    Calls Try.prog 64 #[v, .func (.func 53) #[] #[.pointer (some ⟨Bb, 0, none⟩)]] w
      fun e w' => ∃ r : Int, e = .returned (.int .i64 r) ∧ (decide (0 ≤ r) = l.any (asked b)) ∧ Below w.heap.size w w' := by
  obtain ⟨ad, cap0, hv, hl63, -, hc⟩ := hl.open
  subst hv
  unfold maxLen at hl63
  have HC := Lib.hid hc
  have HB := Lib.hid hB
  clear hc hl hB
  go_enter Try.func64, Try.ntmps64
  go_wp2_with fail
  go_loopw [5, 8] (fun _ c wr => ∃ k : Nat, c = .int .i64 k ∧ k ≤ l.length ∧ w.heap.size ≤ wr.heap.size ∧ Hid (Below w.heap.size w wr) ∧ Hid ((l.take k).any (asked b) = false)) (fun _ c _ => l.length - (intOf c).toNat)
  case atStart => exact ⟨0, rfl, Nat.zero_le _, Nat.le_refl _, Below.refl _ _, rfl⟩
  case round =>
    obtain ⟨k, rfl, hk, hsz, HBl, HN⟩ := hrel
    by_cases hkl : k < l.length
    · obtain ⟨bb, off, u, rfl, hu, c0, c1, c2, c3, c4⟩ := HC.out k hkl
      obtain ⟨ua, uc, rfl, -, -, -⟩ := hu.open
      have hblt : bb < w.heap.size := World.block_lt_of_cell? _ _ c0
      have d0 : wr.cell? ⟨bb, off + k * 5, none⟩ = some (.int .i64 l[k].parent) := by rw [HBl.out.cell hblt]; exact c0
      have d1 : wr.cell? ⟨bb, off + k * 5 + 1, none⟩ = some (.int .i64 l[k].court) := by rw [HBl.out.cell hblt]; exact c1
      have d2 : wr.cell? ⟨bb, off + k * 5 + 2, none⟩ = some (.int .i64 l[k].at_) := by rw [HBl.out.cell hblt]; exact c2
      have d3 : wr.cell? ⟨bb, off + k * 5 + 3, none⟩ = some (.slice ua l[k].own.length uc) := by rw [HBl.out.cell hblt]; exact c3
      have d4 : wr.cell? ⟨bb, off + k * 5 + 4, none⟩ = some (.bool l[k].opn) := by rw [HBl.out.cell hblt]; exact c4
      have hBr : Hid (wr.cell? ⟨Bb, 0, none⟩ = some (.int .i64 b)) := by show _ = _; rw [HBl.out.cell hlt]; exact HB.out
      have htk : Hid ((l.take (k + 1)).any (asked b) = asked b l[k]) := by
        show _ = _
        rw [List.take_succ_eq_append_getElem hkl, List.any_append, HN.out]; simp
      have hany : Hid (asked b l[k] = true → l.any (asked b) = true) := fun h => List.any_eq_true.2 ⟨_, List.getElem_mem hkl, h⟩
      clear c0 c1 c2 c3 c4 hu
      cases hq : asked b l[k] with
      | false =>
        have hq2 : (l[k].opn && l[k].parent == b) = false := hq
        rw [hq] at htk
        clear hq
        go_wp2_with (go_at_call 53; refine (remand1 _ _ _ _ _ _ _ _ _ rfl _ _ hBr.out (by omega)).mono ?_; rintro e w1 ⟨rfl, hb1⟩; have HB1 := Lib.hid (Below.to HBl.out hb1 hsz); have hsz1 := HB1.out.size; clear hb1)
        go_roundw
        case rel => exact ⟨k + 1, by go_num, by omega, hsz1, HB1, htk⟩
        case measure => simp [intOf]; omega
      | true =>
        have hq2 : (l[k].opn && l[k].parent == b) = true := hq
        have hA := hany.out hq
        have HA := Lib.hid hA
        clear hq hA
        go_wp2_with (go_at_call 53; refine (remand1 _ _ _ _ _ _ _ _ _ rfl _ _ hBr.out (by omega)).mono ?_; rintro e w1 ⟨rfl, hb1⟩; have HB1 := Lib.hid (Below.to HBl.out hb1 hsz); clear hb1)
        go_ret
        exact ⟨_, rfl, by rw [HA.out]; simp, HB1.out⟩
    · obtain rfl : k = l.length := by omega
      go_wp2
      go_ret
      have h9 := HN.out
      rw [List.take_length] at h9
      exact ⟨_, rfl, by rw [h9]; simp, HBl.out⟩

theorem containsFunc (l : List Br) (v : Value) (b : Int) (Bb : Nat) (w : World) (hl : IsBrs w v l) (hB : w.cell? ⟨Bb, 0, none⟩ = some (.int .i64 b)) (hlt : Bb < w.heap.size) :
    Calls Try.prog 52 #[v, .func (.func 53) #[] #[.pointer (some ⟨Bb, 0, none⟩)]] w
      fun e w' => e = .returned (.bool (l.any (asked b))) ∧ Below w.heap.size w w' := by
  have H := Lib.hid (indexFunc l v b Bb w hl hB hlt)
  clear hl hB hlt
  go_enter Try.func52, Try.ntmps52
  go_wp2_with (go_at_call 64; refine H.out.mono ?_; rintro e w1 ⟨r, rfl, hr, hb1⟩)
  go_ret
  exact ⟨ret_bool (by first | rfl | assumption | simp [*]), hb1⟩

end Go.Proofs.Ytgfnelpfoegdaaa
