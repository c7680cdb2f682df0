/-
  Hash trees in plain words: the root, the growth, and what a growth proves. No program in sight.
-/
import Derived.Test.YtgfnelpfoegdaaaDoorMem
namespace Go.Proofs.YtgfnelpfoegdaaaDoor

/-- The greatest power of two that is less than n (n at least 2). -/
def sp2 (n : Nat) : Nat := 2 ^ Nat.log2 (n - 1)
theorem sp2_lt {n : Nat} (h : 2 ≤ n) : sp2 n < n := by
  have h1 := Nat.log2_self_le (n := n - 1) (by omega)
  unfold sp2
  omega
theorem sp2_pos (n : Nat) : 1 ≤ sp2 n := Nat.pos_of_ne_zero (by unfold sp2; exact Nat.ne_of_gt (Nat.two_pow_pos _))
theorem sp2_ge {n : Nat} (h : 2 ≤ n) : n ≤ 2 * sp2 n := by
  have h1 := Nat.lt_log2_self (n := n - 1)
  unfold sp2
  rw [Nat.pow_succ] at h1
  omega
theorem sp2_eq {n m : Nat} (h : 2 ≤ n) (h1 : sp2 n < m) (h2 : m ≤ n) : sp2 m = sp2 n := by
  have h3 := sp2_pos n
  have h4 := sp2_ge h
  unfold sp2 at h1 h3 h4 ⊢
  congr 1
  refine (Nat.log2_eq_iff (by omega)).2 ⟨by omega, ?_⟩
  rw [Nat.pow_succ]
  omega

section
variable {A : Type} (node : A → A → A) (e : A)
def mkRoot (l : List A) : A :=
  if h : 2 ≤ l.length then node (mkRoot (l.take (sp2 l.length))) (mkRoot (l.drop (sp2 l.length))) else l.headD e
termination_by l.length
decreasing_by
  · have := sp2_lt h; rw [List.length_take]; omega
  · have := sp2_pos l.length; rw [List.length_drop]; omega
def mkGrow (m : Nat) (l : List A) (whole : Bool) : List A :=
  if m = l.length then (if whole = true then [] else [mkRoot node e l])
  else if h : 2 ≤ l.length then
    if m ≤ sp2 l.length then mkGrow m (l.take (sp2 l.length)) whole ++ [mkRoot node e (l.drop (sp2 l.length))]
    else mkGrow (m - sp2 l.length) (l.drop (sp2 l.length)) false ++ [mkRoot node e (l.take (sp2 l.length))]
  else []
termination_by l.length
decreasing_by
  · have := sp2_lt h; rw [List.length_take]; omega
  · have := sp2_pos l.length; rw [List.length_drop]; omega
end

theorem mkRoot_big {A : Type} {node : A → A → A} {e : A} {l : List A} (h : 2 ≤ l.length) : mkRoot node e l = node (mkRoot node e (l.take (sp2 l.length))) (mkRoot node e (l.drop (sp2 l.length))) := by
  conv => lhs; unfold mkRoot
  rw [dif_pos h]
theorem mkRoot_one {A : Type} {node : A → A → A} {e x : A} : mkRoot node e [x] = x := by
  unfold mkRoot
  rw [dif_neg (by simp)]
  rfl
theorem mkRoot_nil {A : Type} {node : A → A → A} {e : A} : mkRoot node e [] = e := by
  unfold mkRoot
  rw [dif_neg (by simp)]
  rfl
theorem mkGrow_all {A : Type} {node : A → A → A} {e : A} {l : List A} : mkGrow node e l.length l true = [] := by
  unfold mkGrow
  rw [if_pos rfl, if_pos rfl]
theorem mkGrow_own {A : Type} {node : A → A → A} {e : A} {l : List A} : mkGrow node e l.length l false = [mkRoot node e l] := by
  unfold mkGrow
  rw [if_pos rfl, if_neg (by decide)]
theorem mkGrow_left {A : Type} {node : A → A → A} {e : A} {m : Nat} {l : List A} {b : Bool} (hm : m < l.length) (h : 2 ≤ l.length) (hk : m ≤ sp2 l.length) :
    mkGrow node e m l b = mkGrow node e m (l.take (sp2 l.length)) b ++ [mkRoot node e (l.drop (sp2 l.length))] := by
  conv => lhs; unfold mkGrow
  rw [if_neg (by omega), dif_pos h, if_pos hk]
theorem mkGrow_right {A : Type} {node : A → A → A} {e : A} {m : Nat} {l : List A} {b : Bool} (hm : m < l.length) (h : 2 ≤ l.length) (hk : ¬ m ≤ sp2 l.length) :
    mkGrow node e m l b = mkGrow node e (m - sp2 l.length) (l.drop (sp2 l.length)) false ++ [mkRoot node e (l.take (sp2 l.length))] := by
  conv => lhs; unfold mkGrow
  rw [if_neg (by omega), dif_pos h, if_neg hk]
/-- What lies in the left part, and what reaches into the right one. -/
theorem mkRoot_left {A : Type} {node : A → A → A} {e : A} {m : Nat} {l : List A} (hk : m ≤ sp2 l.length) : mkRoot node e ((l.take (sp2 l.length)).take m) = mkRoot node e (l.take m) := by
  rw [List.take_take, Nat.min_eq_left hk]
theorem mkRoot_right {A : Type} {node : A → A → A} {e : A} {m : Nat} {l : List A} (hm : m ≤ l.length) (h : 2 ≤ l.length) (hk : ¬ m ≤ sp2 l.length) :
    node (mkRoot node e (l.take (sp2 l.length))) (mkRoot node e ((l.drop (sp2 l.length)).take (m - sp2 l.length))) = mkRoot node e (l.take m) := by
  have hp := sp2_pos l.length
  have hl : (l.take m).length = m := by rw [List.length_take]; omega
  rw [mkRoot_big (l := l.take m) (by rw [hl]; omega), hl, sp2_eq h (by omega) hm, List.take_take, Nat.min_eq_left (by omega), List.drop_take]

end Go.Proofs.YtgfnelpfoegdaaaDoor
