/-
  The extension as one number, and what further spans do to it (plain, for TollingGrows). No program in sight.
-/
import Derived.Test.YtkcmkpljpmfiaaaGrP
import Derived.Test.YtkcmkpljpmfiaaaSam
namespace Go.Proofs.Ytkcmkpljpmfiaaa

def exF (st due : Int) (M : List (Int × Int)) : Int := if due ≤ st then due else extGo st due M

theorem extF_exF {st due : Int} {M : List (Int × Int)} (h : exF st due M ≤ 3652058) : extF st due M = (exF st due M, 0) := by
  unfold extF exF at *
  by_cases h1 : due ≤ st
  · rw [if_pos h1, if_pos h1]
  · rw [if_neg h1] at h ⊢
    rw [if_neg h1, if_neg (by omega)]
theorem exF_from (st due : Int) (M : List (Int × Int)) : due ≤ exF st due M := by
  unfold exF
  by_cases h1 : due ≤ st
  · rw [if_pos h1]; exact Int.le_refl _
  · rw [if_neg h1]; exact ext_from _ _
theorem exF_le {st due lo hi : Int} {l : List (Int × Int)} (hv : ValSp l) (hin : ∀ s ∈ l, lo ≤ s.1 ∧ s.2 ≤ hi) (hlo : lo ≤ hi + 1) : exF st due (mrg l) ≤ due + (hi - lo + 1) := by
  unfold exF
  by_cases h1 : due ≤ st
  · rw [if_pos h1]; omega
  · rw [if_neg h1]; exact ext_le hv hin hlo (by omega)
theorem exF_mono {st due due' : Int} (M : List (Int × Int)) (h : due ≤ due') : exF st due M ≤ exF st due' M := by
  by_cases h1 : due ≤ st
  · have := exF_from st due' M
    have e : exF st due M = due := if_pos h1
    omega
  · have e : exF st due M = extGo st due M := if_neg h1
    have e' : exF st due' M = extGo st due' M := if_neg (by omega)
    rw [e, e']
    exact ext_mono M _ _ h
theorem exF_more {st due : Int} {l l' : List (Int × Int)} (hv : ValSp l) (hv' : ValSp l') (h : ∀ d, Cov l d → Cov l' d) : exF st due (mrg l) ≤ exF st due (mrg l') := by
  obtain ⟨m1, m2, m3⟩ := mrg_law hv
  obtain ⟨k1, k2, k3⟩ := mrg_law hv'
  by_cases h1 : due ≤ st
  · have e : ∀ M, exF st due M = due := fun M => if_pos h1
    rw [e, e]
    exact Int.le_refl _
  · have e : ∀ M, exF st due M = extGo st due M := fun M => if_neg h1
    rw [e, e]
    exact ext_more m2 m1 k2 k1 (by omega) (fun d hc => (k3 d).2 (h d ((m3 d).1 hc)))
theorem exF_same {st due : Int} {l l' : List (Int × Int)} (hv : ValSp l) (hv' : ValSp l') (h : ∀ d, st < d → d ≤ exF st due (mrg l) → (Cov l d ↔ Cov l' d)) : exF st due (mrg l') = exF st due (mrg l) := by
  obtain ⟨m1, m2, m3⟩ := mrg_law hv
  obtain ⟨k1, k2, k3⟩ := mrg_law hv'
  by_cases h1 : due ≤ st
  · have e : ∀ M, exF st due M = due := fun M => if_pos h1
    rw [e, e]
  · have e : ∀ M, exF st due M = extGo st due M := fun M => if_neg h1
    rw [e] at h
    rw [e, e]
    exact ext_same_days m2 m1 k2 k1 (by omega) (fun d h2 h3 => ((m3 d).trans (h d h2 h3)).trans (k3 d).symm)

/-- The spans that are used cover what counts. -/
theorem used_cov {st due X : Int} {M l : List (Int × Int)} (hX : extF st due M = (X, 0)) (hlt : st < due) (d : Int) (h1 : st < d) (h2 : d ≤ X) : Cov l d ↔ Cov (usedF st due M l) d := by
  unfold usedF
  rw [if_neg (by omega), hX, show endF (X, 0) = X from rfl]
  unfold Cov
  constructor
  · rintro ⟨s, hs, g1, g2⟩
    exact ⟨s, List.mem_filter.2 ⟨hs, by unfold usedP; simp; omega⟩, g1, g2⟩
  · rintro ⟨s, hs, g⟩
    exact ⟨s, (List.mem_filter.1 hs).1, g⟩
theorem used_sub {st due : Int} {M l : List (Int × Int)} : ∀ s ∈ usedF st due M l, s ∈ l := by
  unfold usedF
  split
  · intro s hs; cases hs
  · intro s hs; exact (List.mem_filter.1 hs).1
theorem used_len {st due : Int} {M l : List (Int × Int)} : (usedF st due M l).length ≤ l.length := by
  unfold usedF
  split
  · exact Nat.zero_le _
  · exact List.length_filter_le _ _
theorem used_ext {st due : Int} {l : List (Int × Int)} (hv : ValSp l) (hX : exF st due (mrg l) ≤ 3652058) : exF st due (mrg (usedF st due (mrg l) l)) = exF st due (mrg l) := by
  have hv' : ValSp (usedF st due (mrg l) l) := fun s hs => hv s (used_sub s hs)
  by_cases h1 : due ≤ st
  · have e : ∀ M, exF st due M = due := fun M => if_pos h1
    rw [e, e]
  · exact exF_same hv hv' (fun d g1 g2 => used_cov (extF_exF hX) (by omega) d g1 g2)
theorem aside_ext {st due X : Int} {l : List (Int × Int)} (hv : ValSp l) (hst : 0 ≤ st) (hXe : exF st due (mrg l) = X) (hX : X < 3652058) : exF st due (mrg (l ++ [(0, st), (X + 1, 3652058)])) = X := by
  rw [← hXe]
  refine exF_same hv (val_append hv (fun s hs => ?_)) (fun d g1 g2 => ?_)
  · simp at hs
    rcases hs with rfl | rfl
    · exact hst
    · simp only; omega
  · rw [cov_append]
    refine ⟨.inl, fun h => h.elim id (fun ⟨s, hs, k1, k2⟩ => ?_)⟩
    simp at hs
    rcases hs with rfl | rfl
    · simp only at k2; omega
    · simp only at k1; omega

end Go.Proofs.Ytkcmkpljpmfiaaa
