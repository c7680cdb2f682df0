/-
  Contracts of the small functions: court, has, size, open, in.
-/
import Derived.Test.YtgfnelpfoegdaaaForkF
import Derived.Test.YtgfnelpfoegdaaaN03
namespace Go.Proofs.Ytgfnelpfoegdaaa
open Go.RowKit

theorem court_any (n : Int) (w : World) :
    Calls Try.prog 44 #[.int .i64 n] w fun e w' => e = .returned (.bool (decide (0 ≤ n ∧ n < 16))) ∧ w = w' := by
  by_cases h0 : 0 ≤ n
  · by_cases h1 : n < 16
    · go_enter Try.func44, Try.ntmps44
      go_wp2
      go_ret
      exact ⟨ret_bool (by symm; simp; omega), rfl⟩
    · go_enter Try.func44, Try.ntmps44
      go_wp2
      go_ret
      exact ⟨ret_bool (by symm; simp; omega), rfl⟩
  · go_enter Try.func44, Try.ntmps44
    go_wp2
    go_ret
    exact ⟨ret_bool (by symm; simp; omega), rfl⟩

theorem in_any (n lo hi : Int) (w : World) :
    Calls Try.prog 46 #[.int .i64 n, .int .i64 lo, .int .i64 hi] w fun e w' => e = .returned (.bool (decide (lo ≤ n ∧ n ≤ hi))) ∧ w = w' := by
  by_cases h0 : lo ≤ n
  · by_cases h1 : n ≤ hi
    · go_enter Try.func46, Try.ntmps46
      go_wp2
      go_ret
      exact ⟨ret_bool (by symm; simp; omega), rfl⟩
    · go_enter Try.func46, Try.ntmps46
      go_wp2
      go_ret
      exact ⟨ret_bool (by symm; simp; omega), rfl⟩
  · go_enter Try.func46, Try.ntmps46
    go_wp2
    go_ret
    exact ⟨ret_bool (by symm; simp; omega), rfl⟩

theorem has_any (a : Option Addr) (n cap : Nat) (b : Int) (w : World) :
    Calls Try.prog 54 #[.slice a n cap, .int .i64 b] w fun e w' => e = .returned (.bool (decide (0 ≤ b ∧ b < n))) ∧ w = w' := by
  by_cases h0 : 0 ≤ b
  · by_cases h1 : b < n
    · go_enter Try.func54, Try.ntmps54
      go_wp2
      go_ret
      exact ⟨ret_bool (by symm; simp; omega), rfl⟩
    · go_enter Try.func54, Try.ntmps54
      go_wp2
      go_ret
      exact ⟨ret_bool (by symm; simp; omega), rfl⟩
  · go_enter Try.func54, Try.ntmps54
    go_wp2
    go_ret
    exact ⟨ret_bool (by symm; simp; omega), rfl⟩

theorem refhas_any (a : Option Addr) (n cap : Nat) (b : Int) (w : World) :
    Calls Try.prog 50 #[.slice a n cap, .int .i64 b] w fun e w' => e = .returned (.bool (decide (0 ≤ b ∧ b < n))) ∧ w = w' := by
  by_cases h0 : 0 ≤ b
  · by_cases h1 : b < n
    · go_enter Try.func50, Try.ntmps50
      go_wp2
      go_ret
      exact ⟨ret_bool (by symm; simp; omega), rfl⟩
    · go_enter Try.func50, Try.ntmps50
      go_wp2
      go_ret
      exact ⟨ret_bool (by symm; simp; omega), rfl⟩
  · go_enter Try.func50, Try.ntmps50
    go_wp2
    go_ret
    exact ⟨ret_bool (by symm; simp; omega), rfl⟩

/-- size(l, i): At and the length of Own. -/
theorem size_any (l : List Br) (v : Value) (i : Nat) (x : Br) (w : World) (hl : IsBrs w v l) (hi : l[i]? = some x) (h0 : 0 ≤ x.at_) (h1 : sz x ≤ 9000000000000000000) :
    Calls Try.prog 49 #[v, .int .i64 i] w fun e w' => e = .returned (.int .i64 (sz x)) ∧ ∃ n, w' = w.drewN n := by
  obtain ⟨hlt, rfl⟩ := List.getElem?_eq_some_iff.1 hi
  obtain ⟨a, cap, rfl, hlen, -, hc⟩ := hl.open
  obtain ⟨b, off, u, rfl, hu, -, -, c2, c3, -⟩ := hc i hlt
  obtain ⟨ua, ucap, rfl, ul, -, -⟩ := hu.open
  unfold maxLen at hlen ul
  unfold sz at h1 ⊢
  clear hc hl hu hi
  generalize l[i] = x at *
  have hb : x.at_ + (x.own.length : Int) ≤ 9223372036854775807 := by omega
  clear h1
  go_enter Try.func49, Try.ntmps49
  go_wp2
  go_quiet (fail)
  go_wp2
  go_ret
  exact ⟨rfl, _, rfl⟩

/-- open(l, b): ErrNone, ErrClosed or OK. -/
def openF (l : List Br) (b : Int) : Int := if b < 0 then 3 else match l[b.toNat]? with | none => 3 | some x => if x.opn = true then 0 else 41

theorem open_any (l : List Br) (v : Value) (b : Int) (w : World) (hl : IsBrs w v l) (hb : b ≤ 9223372036854775807) :
    Calls Try.prog 48 #[v, .int .i64 b] w fun e w' => e = .returned (.int .i64 (openF l b)) ∧ w = w' := by
  obtain ⟨a, cap, rfl, hlen, -, hc⟩ := hl.open
  unfold maxLen at hlen
  by_cases h : 0 ≤ b ∧ b < l.length
  · obtain ⟨k, rfl⟩ := Int.eq_ofNat_of_zero_le h.1
    have hk : k < l.length := by omega
    obtain ⟨b, off, u, rfl, hu, -, -, -, -, c4⟩ := hc k hk
    have hof : openF l k = if l[k].opn = true then 0 else 41 := by
      unfold openF
      rw [if_neg (by omega), Int.toNat_natCast, List.getElem?_eq_getElem hk]
    rw [hof]
    clear hof hc hl hu
    cases ho : l[k].opn
    all_goals
      rw [ho] at c4
      clear ho
      go_enter Try.func48, Try.ntmps48
      go_wp2_with (go_at_call 54; refine (has_any _ _ _ _ _).mono ?_; rintro e w' ⟨rfl, rfl⟩)
      go_ret
      exact ⟨rfl, rfl⟩
  · have hof : openF l b = 3 := by
      unfold openF
      by_cases hb0 : b < 0
      · rw [if_pos hb0]
      · rw [if_neg hb0, List.getElem?_eq_none (by omega)]
    rw [hof]
    have hd : decide (0 ≤ b ∧ b < (l.length : Int)) = false := by simpa using h
    clear hof hc hl h
    go_enter Try.func48, Try.ntmps48
    go_wp2_with (go_at_call 54; refine (has_any _ _ _ _ _).mono ?_; rintro e w' ⟨rfl, rfl⟩)
    go_ret
    exact ⟨rfl, rfl⟩

end Go.Proofs.Ytgfnelpfoegdaaa
