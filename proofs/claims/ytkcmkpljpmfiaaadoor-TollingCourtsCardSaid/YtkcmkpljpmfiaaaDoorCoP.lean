/-
  The next open day, and how many days are open (plain, for TollingCourts). No program in sight.
-/
import Derived.Test.YtkcmkpljpmfiaaaDoorCtP
namespace Go.Proofs.YtkcmkpljpmfiaaaDoor

/-- The first open day of n days from d on, and the error. -/
def nextGo (opn : Int → Bool) : Nat → Int → Int × Int
  | 0, _ => (0, 31)
  | n + 1, d => if opn d = true then (d, 0) else nextGo opn n (d + 1)
theorem nextGo_ok {opn : Int → Bool} : ∀ (n : Nat) (d e : Int), d ≤ e → e < d + n → opn e = true → ∃ r, nextGo opn n d = (r, 0) ∧ d ≤ r ∧ r ≤ e ∧ opn r = true ∧ ∀ x, d ≤ x → x < r → opn x = false
  | 0, d, e, h1, h2, _ => by omega
  | n + 1, d, e, h1, h2, h3 => by
    unfold nextGo
    by_cases ho : opn d = true
    · rw [if_pos ho]
      exact ⟨d, rfl, by omega, h1, ho, fun x hx hx2 => by omega⟩
    · rw [if_neg ho]
      have hde : d ≠ e := fun h => ho (h ▸ h3)
      obtain ⟨r, e1, e2, e3, e4, e5⟩ := nextGo_ok n (d + 1) e (by omega) (by omega) h3
      refine ⟨r, e1, by omega, e3, e4, fun x hx hx2 => ?_⟩
      by_cases hxd : x = d
      · subst hxd; simpa using ho
      · exact e5 x (by omega) hx2

/-- How many of the k days from f on are open. -/
def cntUp (opn : Int → Bool) (f : Int) : Nat → Int
  | 0 => 0
  | k + 1 => cntUp opn f k + if opn (f + k) = true then 1 else 0
theorem cntUp_pos (opn : Int → Bool) (f : Int) : ∀ k, 0 ≤ cntUp opn f k ∧ cntUp opn f k ≤ k
  | 0 => by simp [cntUp]
  | k + 1 => by have := cntUp_pos opn f k; unfold cntUp; split <;> omega
theorem cntUp_le {opn : Int → Bool} {f : Int} {M : List (Int × Int)} (ha : Apart M) (hv : ValSp M) (ho : ∀ d, opn d = true → ¬ Cov M d) : ∀ k : Nat, cntUp opn f k ≤ k - daysF f (f + k - 1) M
  | 0 => by rw [daysF_none (by omega)]; simp [cntUp]
  | k + 1 => by
    have ih := cntUp_le (f := f) ha hv ho k
    unfold cntUp
    have e : f + ((k + 1 : Nat) : Int) - 1 = f + (k : Int) - 1 + 1 := by omega
    have e2 : f + (k : Int) = f + (k : Int) - 1 + 1 := by omega
    rw [e]
    by_cases hc : Cov M (f + (k : Int) - 1 + 1)
    · rw [daysF_in ha hv (by omega) hc]
      have h1 : ¬ opn (f + (k : Int)) = true := fun h => ho _ h (by rw [e2]; exact hc)
      rw [if_neg h1]
      omega
    · rw [daysF_out (by omega) hc]
      split <;> omega

theorem nodup_sub : ∀ (L H : List Int), L.Nodup → (∀ x ∈ L, x ∈ H) → L.length ≤ H.length
  | [], H, _, _ => by simp
  | a :: L, H, hd, h => by
    obtain ⟨h1, h2⟩ := List.nodup_cons.1 hd
    have ha := h a (by simp)
    have h3 := nodup_sub L (H.erase a) h2 (fun x hx => (List.mem_erase_of_ne (by rintro rfl; exact h1 hx)).2 (h x (by simp [hx])))
    rw [List.length_erase_of_mem ha] at h3
    have h4 : 0 < H.length := List.length_pos_of_mem ha
    rw [List.length_cons]
    omega

/-- Ten weekdays of 2026. -/
def ten : List Int := [739887, 739888, 739889, 739890, 739894, 739895, 739896, 739897, 739901, 739902]
theorem ten_free {H : List Int} (h : H.length ≤ 9) : ∃ d ∈ ten, d ∉ H := by
  refine Classical.byContradiction fun hn => ?_
  have h1 := nodup_sub ten H (by decide) fun x hx => Classical.byContradiction fun hx2 => hn ⟨x, hx, hx2⟩
  have h2 : ten.length = 10 := rfl
  omega

end Go.Proofs.YtkcmkpljpmfiaaaDoor
