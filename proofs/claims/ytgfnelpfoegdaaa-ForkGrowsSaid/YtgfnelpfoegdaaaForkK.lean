/-
  The record of branches in plain functions: records of roots alone; a root with one fork. No program in sight.
-/
import Derived.Test.YtgfnelpfoegdaaaForkJ
namespace Go.Proofs.Ytgfnelpfoegdaaa

/-- k branches that were not forked. -/
def roots : Nat → List Br
  | 0 => []
  | k + 1 => roots k ++ [⟨-1, (k : Int) % 16, 0, [], true⟩]

theorem roots_len : ∀ k, (roots k).length = k
  | 0 => rfl
  | k + 1 => by simp [roots, roots_len k]

theorem roots_good : ∀ k, k ≤ 256 → Good (roots k)
  | 0, _ => ⟨by simp [roots], fun i x hi => absurd hi (by simp [roots])⟩
  | k + 1, h => good_root (roots_good k (by omega)) (by rw [roots_len]; omega) (by omega) (by omega)

theorem roots_zero : ∀ k, (roots (k + 1))[0]? = some ⟨-1, 0, 0, [], true⟩
  | 0 => rfl
  | k + 1 => by
    rw [roots, List.getElem?_append_left (by rw [roots_len]; omega)]
    exact roots_zero k

theorem rootF_roots {k : Nat} (h : k < 256) : rootF (roots k) 0 = (roots k ++ [⟨-1, 0, 0, [], true⟩], (k : Int), 0) := by
  unfold rootF
  rw [if_pos (by omega), if_neg (by rw [roots_len]; omega), roots_len]
theorem rootF_full : rootF (roots 256) 0 = ([], 0, 2) := by
  unfold rootF
  rw [if_pos (by omega), if_pos (by rw [roots_len]; omega)]
theorem roots_depth (k : Nat) : depth (roots (k + 1)) 0 = 0 := chain_root (roots_zero k) (by simp)

/-- A root with m events and a fork with n. -/
def twoB (xs ys : List Int) : List Br := [⟨-1, 0, 0, xs, true⟩, ⟨0, 0, 9, ys, true⟩]

theorem two_good {xs ys : List Int} (h : xs.length ≤ 65536) (h9 : 9 ≤ xs.length) (hy : ys.length ≤ 9) : Good (twoB xs ys) := by
  have hx0 : (twoB xs ys)[0]? = some ⟨-1, 0, 0, xs, true⟩ := rfl
  have hx1 : (twoB xs ys)[1]? = some ⟨0, 0, 9, ys, true⟩ := rfl
  refine ⟨by simp [twoB], fun i x hi hx => ?_⟩
  have hi2 : i < 2 := hi
  rcases (by omega : i = 0 ∨ i = 1) with rfl | rfl
  · rw [hx0] at hx
    cases hx
    refine ⟨by simp, by simp, by simp, by simp, ?_, ?_, ?_, fun _ => popen_neg (by simp), fun h => by cases h⟩
    · rw [most_neg (by simp)]; simp
    · rw [chain_root hx0 (by simp)]; omega
    · simp [sz]; omega
  · rw [hx1] at hx
    cases hx
    refine ⟨by simp, by simp, by simp, by simp, ?_, ?_, ?_, fun _ => ?_, fun h => by cases h⟩
    · rw [most_at (p := 0) rfl hx0]; simp [sz]; omega
    · unfold depth
      rw [chain_some hx1 (by simp)]
      show (1 :: chainZ (twoB xs ys) ((0 : Nat) : Int)).length - 1 ≤ 8
      rw [chainZ_nat, chain_some hx0 (by simp), chainZ_neg (by simp)]
      simp
    · simp [sz]; omega
    · rw [popen_at (p := 0) rfl hx0]

def twoC (xs ys : List Int) : List Br := [⟨-1, 0, 0, xs, true⟩, ⟨0, 0, 9, ys, false⟩]
theorem twoB_len (xs ys : List Int) : (twoB xs ys).length = 2 := rfl
theorem twoC_len (xs ys : List Int) : (twoC xs ys).length = 2 := rfl
theorem twoB_zero (xs ys : List Int) : (twoB xs ys)[0]? = some ⟨-1, 0, 0, xs, true⟩ := rfl
theorem twoC_zero (xs ys : List Int) : (twoC xs ys)[0]? = some ⟨-1, 0, 0, xs, true⟩ := rfl

theorem two_add {xs ys : List Int} (h : xs.length < 65536) : addF (twoB xs ys) ((0 : Nat) : Int) 7 = (twoB (xs ++ [7]) ys, 0) := by
  unfold addF
  rw [if_neg (by omega)]
  simp [twoB, sz]
  omega
theorem two_add_full {xs ys : List Int} (h : 65536 ≤ xs.length) : addF (twoB xs ys) ((0 : Nat) : Int) 7 = ([], 2) := by
  unfold addF
  rw [if_neg (by omega)]
  simp [twoB, sz]
  omega
theorem two_remand {xs ys : List Int} (h : xs.length + ys.length ≤ 65536) : remandF (twoB xs ys) ((1 : Nat) : Int) = (twoC (xs ++ ys) ys, 0) := by
  unfold remandF
  rw [if_neg (by omega)]
  simp [twoB, twoC, sz]
  omega
theorem two_remand_full {xs ys : List Int} (h : 65536 < xs.length + ys.length) : remandF (twoB xs ys) ((1 : Nat) : Int) = ([], 2) := by
  unfold remandF
  rw [if_neg (by omega)]
  simp [twoB, sz]
  omega

end Go.Proofs.Ytgfnelpfoegdaaa
