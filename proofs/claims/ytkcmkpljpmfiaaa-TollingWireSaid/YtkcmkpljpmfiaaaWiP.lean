/-
  The wire format in plain words: the bytes of a number, and what a reader makes of them. No program in sight.
-/
import Derived.Test.YtkcmkpljpmfiaaaMem
namespace Go.Proofs.Ytkcmkpljpmfiaaa

/-- The bytes of an unsigned number. -/
def encU (n : Nat) : List Int := if h : n < 128 then [(n : Int)] else ((n % 128 + 128 : Nat) : Int) :: encU (n / 128)
termination_by n
decreasing_by omega

theorem encU_small {n : Nat} (h : n < 128) : encU n = [(n : Int)] := by unfold encU; rw [dif_pos h]
theorem encU_big {n : Nat} (h : ¬ n < 128) : encU n = ((n % 128 + 128 : Nat) : Int) :: encU (n / 128) := by conv => lhs; unfold encU; rw [dif_neg h]
theorem encU_pos (n : Nat) : 1 ≤ (encU n).length := by unfold encU; split <;> simp
theorem encU_len : ∀ (n k : Nat), n < 128 ^ (k + 1) → (encU n).length ≤ k + 1
  | n, 0, h => by rw [encU_small (by omega)]; simp
  | n, k + 1, h => by
    by_cases hn : n < 128
    · rw [encU_small hn]; simp
    · rw [encU_big hn, List.length_cons]
      have := encU_len (n / 128) k (by rw [Nat.pow_succ] at h; omega)
      omega
theorem encU_byte : ∀ (k n : Nat), n ≤ k → ∀ b ∈ encU n, 0 ≤ b ∧ b < 256
  | k, n, hk, b, hb => by
    by_cases h : n < 128
    · rw [encU_small h] at hb
      simp at hb
      omega
    · rw [encU_big h] at hb
      rcases List.mem_cons.1 hb with rfl | hb
      · omega
      · cases k with
        | zero => omega
        | succ k => exact encU_byte k (n / 128) (by omega) b hb

/-- Behind k bytes of n's encoding: what was taken, and what is left. -/
structure DecAt (n : Nat) (k : Nat) (acc : Nat) (rest : Nat) : Prop where
  sum : n = acc + 128 ^ k * rest
  lt : acc < 128 ^ k
  tail : (encU n).drop k = encU rest
  more : 0 < k → 0 < rest
theorem DecAt.start (n : Nat) : DecAt n 0 0 n := ⟨by simp, by simp, by simp, fun h => absurd h (Nat.lt_irrefl _)⟩
theorem DecAt.get {n k acc rest : Nat} (h : DecAt n k acc rest) : ∃ hk : k < (encU n).length, (encU n)[k] = if rest < 128 then (rest : Int) else ((rest % 128 + 128 : Nat) : Int) := by
  have hp := encU_pos rest
  have hl : ((encU n).drop k).length = (encU rest).length := by rw [h.tail]
  rw [List.length_drop] at hl
  have hk : k < (encU n).length := by omega
  refine ⟨hk, ?_⟩
  have e : ((encU n).drop k)[0]? = (encU rest)[0]? := by rw [h.tail]
  rw [List.getElem?_drop, Nat.add_zero, List.getElem?_eq_getElem hk] at e
  by_cases hr : rest < 128
  · rw [if_pos hr]
    rw [encU_small hr] at e
    simpa using e
  · rw [if_neg hr]
    rw [encU_big hr] at e
    simpa using e
theorem DecAt.next {n k acc rest : Nat} (h : DecAt n k acc rest) (hr : ¬ rest < 128) : DecAt n (k + 1) (acc + 128 ^ k * (rest % 128)) (rest / 128) := by
  have hd := Nat.div_add_mod rest 128
  refine ⟨?_, ?_, ?_, fun _ => by omega⟩
  · rw [h.sum, Nat.pow_succ]
    have : 128 ^ k * rest = 128 ^ k * (128 * (rest / 128) + rest % 128) := by rw [hd]
    rw [this, Nat.mul_add]
    have e : 128 ^ k * (128 * (rest / 128)) = 128 ^ k * 128 * (rest / 128) := by rw [Nat.mul_assoc]
    rw [e]
    omega
  · have h1 := h.lt
    have h2 : rest % 128 ≤ 127 := by omega
    have h3 : 128 ^ k * (rest % 128) ≤ 128 ^ k * 127 := Nat.mul_le_mul_left _ h2
    rw [Nat.pow_succ]
    omega
  · rw [← List.drop_drop, h.tail, encU_big hr]
    rfl
theorem DecAt.last {n k acc rest : Nat} (h : DecAt n k acc rest) (hr : rest < 128) : n = acc + 128 ^ k * rest ∧ (encU n).length = k + 1 := by
  refine ⟨h.sum, ?_⟩
  have hl : ((encU n).drop k).length = 1 := by rw [h.tail, encU_small hr]; rfl
  rw [List.length_drop] at hl
  omega

end Go.Proofs.Ytkcmkpljpmfiaaa
