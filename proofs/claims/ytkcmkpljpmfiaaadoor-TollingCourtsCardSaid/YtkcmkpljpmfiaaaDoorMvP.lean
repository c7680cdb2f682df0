/-
  Moving all days moves the merged spans and the extension (plain, for TollingMoves); merging merged spans, and lists that cover the same days (for TollingOrders). No program in sight.
-/
import Derived.Test.YtkcmkpljpmfiaaaDoorMpl
namespace Go.Proofs.YtkcmkpljpmfiaaaDoor

def shiftS (k : Int) (l : List (Int × Int)) : List (Int × Int) := l.map (fun s => (s.1 + k, s.2 + k))

theorem shift_val {k : Int} {l : List (Int × Int)} (h : ValSp l) : ValSp (shiftS k l) := by
  intro s hs
  obtain ⟨t, ht, rfl⟩ := List.mem_map.1 hs
  have := h t ht
  simp only
  omega
theorem shift_cov {k : Int} {l : List (Int × Int)} (d : Int) : Cov (shiftS k l) d ↔ Cov l (d - k) := by
  unfold Cov
  constructor
  · rintro ⟨s, hs, h1, h2⟩
    obtain ⟨t, ht, rfl⟩ := List.mem_map.1 hs
    simp only at h1 h2
    exact ⟨t, ht, by omega, by omega⟩
  · rintro ⟨t, ht, h1, h2⟩
    exact ⟨(t.1 + k, t.2 + k), List.mem_map.2 ⟨t, ht, rfl⟩, by simp only; omega, by simp only; omega⟩
theorem shift_apart {k : Int} {l : List (Int × Int)} (h : Apart l) : Apart (shiftS k l) := by
  unfold Apart shiftS at *
  rw [List.pairwise_map]
  exact h.imp (fun h => by simp only; omega)

theorem mrg_shift {k : Int} {l : List (Int × Int)} (hv : ValSp l) : mrg (shiftS k l) = shiftS k (mrg l) := by
  obtain ⟨g1, g2, g3⟩ := mrg_law hv
  obtain ⟨k1, k2, k3⟩ := mrg_law (shift_val (k := k) hv)
  refine apart_eq _ _ k1 (shift_val g1) k2 (shift_apart g2) (fun d => ?_)
  rw [k3 d, shift_cov, shift_cov, g3]

theorem ext_shift {st k : Int} : ∀ (M : List (Int × Int)) (due : Int), extGo (st + k) (due + k) (shiftS k M) = extGo st due M + k
  | [], due => rfl
  | s :: r, due => by
    show extGo (st + k) (due + k) ((s.1 + k, s.2 + k) :: shiftS k r) = _
    unfold extGo
    by_cases h : due < s.1
    · rw [if_pos h, if_pos (by simp only; omega)]
    · rw [if_neg h, if_neg (by simp only; omega)]
      simp only
      rw [← ext_shift r (due + max 0 (s.2 - max s.1 (st + 1) + 1))]
      congr 1
      omega

/-- Lists that cover the same days merge alike. -/
theorem mrg_same {l l' : List (Int × Int)} (hv : ValSp l) (hv' : ValSp l') (h : ∀ d, Cov l d ↔ Cov l' d) : mrg l = mrg l' := by
  obtain ⟨g1, g2, g3⟩ := mrg_law hv
  obtain ⟨k1, k2, k3⟩ := mrg_law hv'
  exact apart_eq _ _ g1 k1 g2 k2 (fun d => (g3 d).trans ((h d).trans (k3 d).symm))
theorem mrg_mrg {l : List (Int × Int)} (hv : ValSp l) : mrg (mrg l) = mrg l := mrg_same (mrg_law hv).1 hv (mrg_law hv).2.2

theorem ext_from {st : Int} : ∀ (M : List (Int × Int)) (due : Int), due ≤ extGo st due M
  | [], due => Int.le_refl _
  | s :: r, due => by
    unfold extGo
    by_cases hlt : due < s.1
    · rw [if_pos hlt]; exact Int.le_refl _
    · rw [if_neg hlt]
      have := ext_from (st := st) r (due + max 0 (s.2 - max s.1 (st + 1) + 1))
      omega
/-- A later due does not make the result less (for TollingGrows). -/
theorem ext_mono {st : Int} : ∀ (M : List (Int × Int)) (due due' : Int), due ≤ due' → extGo st due M ≤ extGo st due' M
  | [], due, due', h => h
  | s :: r, due, due', h => by
    by_cases hlt : due < s.1
    · have e : extGo st due (s :: r) = due := by unfold extGo; rw [if_pos hlt]
      rw [e]
      exact Int.le_trans h (ext_from _ _)
    · unfold extGo
      rw [if_neg hlt, if_neg (by omega)]
      exact ext_mono r _ _ (by omega)

end Go.Proofs.YtkcmkpljpmfiaaaDoor
