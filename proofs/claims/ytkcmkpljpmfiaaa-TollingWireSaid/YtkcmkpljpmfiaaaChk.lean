/-
  Around; Check of both sides; the law TollingChecks: its walk.
-/
import Derived.Test.YtkcmkpljpmfiaaaLiv
namespace Go.Proofs.Ytkcmkpljpmfiaaa
open Go.RowKit

def around (n most : Int) : Int := (if n < 0 then -(n + 1) else n) % most

theorem around_neg (n most : Int) (h : n < 0) : -((n + 1).tmod most) = around n most := by
  unfold around; rw [if_pos h, ← Int.neg_tmod, Int.tmod_eq_emod_of_nonneg (by omega)]
theorem around_pos (n most : Int) (h : ¬ n < 0) : n % most = around n most := by
  unfold around; rw [if_neg h]
theorem around_lo (n most : Int) (h : 1 ≤ most) : 0 ≤ around n most := Int.emod_nonneg _ (by omega)
theorem around_hi (n most : Int) (h : 1 ≤ most) : around n most < most := Int.emod_lt_of_pos _ (by omega)

theorem ret_int {k : IntKind} {a b : Int} (h : a = b) : Ending.returned (.int k a) = .returned (.int k b) := by rw [h]
theorem ret_bool {a b : Bool} (h : a = b) : Ending.returned (.bool a) = .returned (.bool b) := by rw [h]

set_option maxHeartbeats 400000 in
theorem around_any (n most : Int) (hn : I64 n) (h1 : 1 ≤ most) (w : World) :
    Calls Try.prog 15 #[.int .i64 n, .int .i64 most] w fun e w' => e = .returned (.int .i64 (around n most)) ∧ w = w' := by
  unfold I64 at hn
  obtain ⟨hn1, hn2⟩ := hn
  have hz : (most == 0) = false := by simp; omega
  by_cases h0 : n < 0
  · go_enter Try.func15, Try.ntmps15
    go_wp2
    go_ret
    exact ⟨ret_int (around_neg _ _ h0), rfl⟩
  · go_enter Try.func15, Try.ntmps15
    go_wp2
    go_ret
    exact ⟨ret_int (around_pos _ _ (by omega)), rfl⟩


theorem around_nat {n : Int} {m : Nat} (h : 1 ≤ m) : ∃ k : Nat, around n m = k ∧ k < m := by
  have h1 := around_lo n m (by omega)
  have h2 := around_hi n m (by omega)
  exact ⟨(around n m).toNat, by omega, by omega⟩

def BadSp (s : Int × Int) : Prop := s.1 < 0 ∨ s.2 < s.1 ∨ 3652058 < s.2
def OkSps (l : List (Int × Int)) (k : Nat) : Prop := ∀ i (h : i < l.length), i < k → ¬ BadSp l[i]
open Classical in
noncomputable def chkF (l : List (Int × Int)) : Int := if 64 < l.length then 2 else if OkSps l l.length then 0 else 5

theorem OkSps.next {l : List (Int × Int)} {k : Nat} (h : OkSps l k) (hk : k < l.length) (hb : ¬ BadSp l[k]) : OkSps l (k + 1) := fun i hi hik => by
  by_cases e : i = k
  · subst e; exact hb
  · exact h i hi (by omega)

theorem chkF_big {l : List (Int × Int)} (h : 64 < l.length) : chkF l = 2 := by unfold chkF; rw [if_pos h]
theorem chkF_ok {l : List (Int × Int)} (h : ¬ 64 < l.length) (ho : OkSps l l.length) : chkF l = 0 := by unfold chkF; rw [if_neg h, if_pos ho]
theorem chkF_bad {l : List (Int × Int)} (h : ¬ 64 < l.length) {k : Nat} (hk : k < l.length) (hb : BadSp l[k]) : chkF l = 5 := by
  unfold chkF
  rw [if_neg h, if_neg (fun ho => ho k hk hk hb)]

set_option maxHeartbeats 2000000 in
set_option maxRecDepth 100000 in
theorem check_any (l : List (Int × Int)) (v : Value) (w : World) (hx : IsSps w v l) :
    Calls Try.prog 27 #[v] w fun e w' => e = .returned (.int .i64 (chkF l)) ∧ Below w.heap.size w w' := by
  have HX := Lib.hid hx
  obtain ⟨ad, cap, rfl, hm, -, -⟩ := hx.open
  unfold maxLen at hm
  clear hx
  obtain ⟨R, hR⟩ : ∃ R, chkF l = R := ⟨_, rfl⟩
  rw [hR]
  have HRR := Lib.hid hR
  clear hR
  by_cases hbig : 64 < l.length
  · have HR : Hid (R = 2) := by show _ = _; rw [← HRR.out]; exact chkF_big hbig
    have hb' : (64 : Int) < (l.length : Int) := by omega
    clear hbig
    go_enter Try.func27, Try.ntmps27
    go_wp2_with fail
    go_ret
    exact ⟨ret_int HR.out.symm, Below.refl _ _⟩
  · have HBG := Lib.hid hbig
    have hb' : ¬ (64 : Int) < (l.length : Int) := by omega
    have hb2 : l.length ≤ 64 := by omega
    clear hbig
    go_enter Try.func27, Try.ntmps27
    go_wp2_with fail
    go_loopw [3, 10] (fun _ i wr => ∃ k : Nat, i = .int .i64 k ∧ k ≤ l.length ∧ Hid (OkSps l k) ∧ w.heap.size ≤ wr.heap.size ∧ Hid (Below w.heap.size w wr)) (fun _ i _ => l.length - (intOf i).toNat)
    case atStart => exact ⟨0, rfl, Nat.zero_le _, Lib.hid (fun i h hi => absurd hi (Nat.not_lt_zero _)), Nat.le_refl _, Lib.hid (Below.refl _ _)⟩
    case round =>
      obtain ⟨k, rfl, hk, HO, hsz, HB⟩ := hrel
      by_cases hkl : k < l.length
      · obtain ⟨b5, o5, q5, e5, hlt5, c0, c1'⟩ := (HX.out.below HB.out).at hkl
        simp only [Value.slice.injEq, true_and] at e5
        obtain ⟨rfl, -⟩ := e5
        have HBAD : Hid (BadSp l[k] → R = 5) := fun h => by rw [← HRR.out]; exact chkF_bad HBG.out hkl h
        have HGOOD : Hid (¬ BadSp l[k] → OkSps l (k + 1)) := fun h => HO.out.next hkl h
        generalize l[k] = s at *
        obtain ⟨s1, s2⟩ := s
        simp only at c0 c1'
        have HB9 := Lib.hid (Below.to HB.out ((Below.refl wr.heap.size wr).alloc (Nat.le_refl _) (.cells #[.int .i64 s1, .int .i64 s2] 40)) hsz)
        clear HO
        by_cases h1 : s1 < 0
        · have HR : Hid (R = 5) := HBAD.out (.inl h1)
          go_wp2_with fail
          go_ret
          exact ⟨ret_int HR.out.symm, HB9.out⟩
        · have h1' : 0 ≤ s1 := by omega
          by_cases h2 : s2 < s1
          · have HR : Hid (R = 5) := HBAD.out (.inr (.inl h2))
            go_wp2_with fail
            go_ret
            exact ⟨ret_int HR.out.symm, HB9.out⟩
          · have h2' : s1 ≤ s2 := by omega
            by_cases h3 : 3652058 < s2
            · have HR : Hid (R = 5) := HBAD.out (.inr (.inr h3))
              go_wp2_with fail
              go_ret
              exact ⟨ret_int HR.out.symm, HB9.out⟩
            · have h3' : s2 ≤ 3652058 := by omega
              have HN : Hid (OkSps l (k + 1)) := HGOOD.out (by unfold BadSp; simp only; omega)
              go_wp2_with fail
              go_roundw
              case rel => exact ⟨k + 1, by go_num, by omega, HN, HB9.out.size, HB9⟩
              case measure => simp [intOf]; omega
      · obtain rfl : k = l.length := by omega
        have HR : Hid (R = 0) := by show _ = _; rw [← HRR.out]; exact chkF_ok HBG.out HO.out
        go_wp2_with fail
        go_ret
        exact ⟨ret_int HR.out.symm, HB.out⟩

set_option maxHeartbeats 2000000 in
set_option maxRecDepth 100000 in
theorem refCheck_any (l : List (Int × Int)) (v : Value) (w : World) (hx : IsSps w v l) :
    Calls Try.prog 28 #[v] w fun e w' => e = .returned (.int .i64 (chkF l)) ∧ Below w.heap.size w w' := by
  have HX := Lib.hid hx
  obtain ⟨ad, cap, rfl, hm, -, -⟩ := hx.open
  unfold maxLen at hm
  clear hx
  obtain ⟨R, hR⟩ : ∃ R, chkF l = R := ⟨_, rfl⟩
  rw [hR]
  have HRR := Lib.hid hR
  clear hR
  by_cases hbig : 64 < l.length
  · have HR : Hid (R = 2) := by show _ = _; rw [← HRR.out]; exact chkF_big hbig
    have hb' : (64 : Int) < (l.length : Int) := by omega
    clear hbig
    go_enter Try.func28, Try.ntmps28
    go_wp2_with fail
    go_ret
    exact ⟨ret_int HR.out.symm, Below.refl _ _⟩
  · have HBG := Lib.hid hbig
    have hb' : ¬ (64 : Int) < (l.length : Int) := by omega
    have hb2 : l.length ≤ 64 := by omega
    clear hbig
    go_enter Try.func28, Try.ntmps28
    go_wp2_with fail
    go_loopw [3] (fun i wr => ∃ k : Nat, i = .int .i64 k ∧ k ≤ l.length ∧ Hid (OkSps l k) ∧ w.heap.size ≤ wr.heap.size ∧ Hid (Below w.heap.size w wr)) (fun i _ => l.length - (intOf i).toNat)
    case atStart => exact ⟨0, rfl, Nat.zero_le _, Lib.hid (fun i h hi => absurd hi (Nat.not_lt_zero _)), Nat.le_refl _, Lib.hid (Below.refl _ _)⟩
    case round =>
      obtain ⟨k, rfl, hk, HO, hsz, HB⟩ := hrel
      by_cases hkl : k < l.length
      · obtain ⟨b5, o5, q5, e5, hlt5, c0, c1'⟩ := (HX.out.below HB.out).at hkl
        simp only [Value.slice.injEq, true_and] at e5
        obtain ⟨rfl, -⟩ := e5
        have HBAD : Hid (BadSp l[k] → R = 5) := fun h => by rw [← HRR.out]; exact chkF_bad HBG.out hkl h
        have HGOOD : Hid (¬ BadSp l[k] → OkSps l (k + 1)) := fun h => HO.out.next hkl h
        generalize l[k] = s at *
        obtain ⟨s1, s2⟩ := s
        simp only at c0 c1'
        have HB9 : Hid (∀ n, Below w.heap.size w (wr.drewN n)) := fun n => below_drewN HB.out n
        clear HO
        by_cases h1 : s1 < 0
        · have HR : Hid (R = 5) := HBAD.out (.inl h1)
          go_wp2_with fail
          go_quiet (fail)
          go_wp2_with fail
          go_ret
          exact ⟨ret_int HR.out.symm, HB9.out _⟩
        · have h1' : 0 ≤ s1 := by omega
          by_cases h2 : s2 < s1
          · have HR : Hid (R = 5) := HBAD.out (.inr (.inl h2))
            go_wp2_with fail
            go_quiet (fail)
            go_wp2_with fail
            go_ret
            exact ⟨ret_int HR.out.symm, HB9.out _⟩
          · have h2' : s1 ≤ s2 := by omega
            by_cases h3 : 3652058 < s2
            · have HR : Hid (R = 5) := HBAD.out (.inr (.inr h3))
              go_wp2_with fail
              go_quiet (fail)
              go_wp2_with fail
              go_ret
              exact ⟨ret_int HR.out.symm, HB9.out _⟩
            · have h3' : s2 ≤ 3652058 := by omega
              have HN : Hid (OkSps l (k + 1)) := HGOOD.out (by unfold BadSp; simp only; omega)
              go_wp2_with fail
              go_quiet (fail)
              go_wp2_with fail
              go_roundw
              case rel => exact ⟨k + 1, by go_num, by omega, HN, (HB9.out _).size, Lib.hid (HB9.out _)⟩
              case measure => simp [intOf]; omega
      · obtain rfl : k = l.length := by omega
        have HR : Hid (R = 0) := by show _ = _; rw [← HRR.out]; exact chkF_ok HBG.out HO.out
        go_wp2_with fail
        go_ret
        exact ⟨ret_int HR.out.symm, HB.out⟩

end Go.Proofs.Ytkcmkpljpmfiaaa
