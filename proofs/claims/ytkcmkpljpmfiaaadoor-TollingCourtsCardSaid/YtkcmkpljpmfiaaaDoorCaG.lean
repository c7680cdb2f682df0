/-
  Courts in plain words: an open day late in 2026; where Extend ends; the days that are counted.
-/
import Derived.Test.YtkcmkpljpmfiaaaDoorCaF
import Derived.Test.YtkcmkpljpmfiaaaDoorCaD
import Derived.Test.YtkcmkpljpmfiaaaDoorFun
namespace Go.Proofs.YtkcmkpljpmfiaaaDoor

theorem ten_year : ∀ d ∈ ten, yrF d = 2026 ∧ 1 ≤ d % 7 ∧ d % 7 ≤ 4 ∧ 739887 ≤ d ∧ d ≤ 739902 := by decide
/-- An open day late in 2026. -/
theorem open_exists {wk : Nat → Bool} {hs : List Hol} {cl : List Clo} {K : Int} (hw : ∀ j, 1 ≤ j → j ≤ 4 → wk j = false) (hl : hs.length ≤ 3) (hc : ∀ c ∈ cl, CloIn c) :
    ∃ e, 739887 ≤ e ∧ e ≤ 739902 ∧ shutF wk hs cl K e = false := by
  obtain ⟨d, hd, hn⟩ := ten_free (H := (ofF hs 2025 0 ++ ofF hs 2026 0 ++ ofF hs 2027 0).map (·.1)) (by
    have h1 := ofF_len hs 2025 0
    have h2 := ofF_len hs 2026 0
    have h3 := ofF_len hs 2027 0
    simp only [List.length_map, List.length_append]
    omega)
  obtain ⟨hy, h1, h4, h5, h6⟩ := ten_year d hd
  refine ⟨d, h5, h6, ?_⟩
  unfold shutF
  rw [hw _ (by omega) (by omega), if_neg (by simp)]
  have hcl : cl.any (cloB K d) = false := by
    rw [List.any_eq_false]
    intro c hcm
    have := (hc c hcm).2.2.1
    unfold cloB
    simp only [decide_eq_true_eq]
    omega
  rw [hcl, if_neg (by simp)]
  unfold isF
  rw [hy, List.any_eq_false]
  intro y hym
  rw [Bool.not_eq_true, List.any_eq_false]
  intro p hp
  simp only [beq_iff_eq]
  rintro rfl
  apply hn
  simp only [List.mem_cons, List.not_mem_nil, or_false] at hym
  rw [List.mem_map]
  refine ⟨p, ?_, rfl⟩
  simp only [List.mem_append]
  rcases hym with rfl | rfl | rfl
  · exact .inl (.inl hp)
  · exact .inl (.inr hp)
  · exact .inr hp

/-- The closures as spans. -/
def cloS (cl : List Clo) : List (Int × Int) := cl.map fun c => (c.f, c.u)
theorem cloS_val {cl : List Clo} (h : ∀ c ∈ cl, CloIn c) : ValSp (cloS cl) := by
  intro s hs
  obtain ⟨c, hc, rfl⟩ := List.mem_map.1 hs
  exact (h c hc).2.1
theorem cloS_in {cl : List Clo} (h : ∀ c ∈ cl, CloIn c) : ∀ s ∈ cloS cl, 739616 ≤ s.1 ∧ s.2 ≤ 739740 := by
  intro s hs
  obtain ⟨c, hc, rfl⟩ := List.mem_map.1 hs
  exact ⟨(h c hc).1, (h c hc).2.2.1⟩
theorem cloS_B {cl : List Clo} (h : ∀ c ∈ cl, CloIn c) : SpB (cloS cl) := by
  intro s hs
  have h1 := cloS_in h s hs
  have h2 := cloS_val h s hs
  omega
/-- What Extend gives. -/
theorem ext_court {cl : List Clo} (h : ∀ c ∈ cl, CloIn c) {st due : Int} (h1 : 739596 ≤ st) (h2 : st ≤ due) (h3 : due ≤ 739760) :
    ∃ x, extF st due (mrg (cloS cl)) = (x, 0) ∧ due ≤ x ∧ x ≤ 739886 := by
  unfold extF
  by_cases hd : due ≤ st
  · rw [if_pos hd]
    exact ⟨due, rfl, Int.le_refl _, by omega⟩
  · rw [if_neg hd]
    obtain ⟨g1, g2, g3⟩ := mrg_law (cloS_val h)
    have e1 := (ext_days (st := st) (mrg (cloS cl)) due g2 g1 (by omega)).1
    have e2 := daysF_le (f := st + 1) (u := extGo st due (mrg (cloS cl))) (hi := 739740) (lo := 739616) g2 g1 (mrg_in (cloS_val h) (cloS_in h)) (by omega)
    have e3 := ext_from (st := st) (mrg (cloS cl)) due
    refine ⟨extGo st due (mrg (cloS cl)), ?_, e3, by omega⟩
    first
      | (rw [if_neg (by omega)])
      | (rw [if_pos (by omega)])
/-- The count is within what the law says. -/
theorem count_court {wk : Nat → Bool} {hs : List Hol} {cl : List Clo} {K f u : Int} (h : ∀ c ∈ cl, CloIn c) (hK : 739745 ≤ K) {n : Nat} (hn : (n : Int) = u - f + 1) :
    cntUp (fun d => !shutF wk hs cl K d) f n ≤ u - f + 1 - daysF f u (mrg (cloS cl)) := by
  obtain ⟨g1, g2, g3⟩ := mrg_law (cloS_val h)
  have hc := cntUp_le (opn := fun d => !shutF wk hs cl K d) (f := f) g2 g1 (fun d hd hcov => by
    obtain ⟨s, hsm, h1, h2⟩ := (g3 d).1 hcov
    obtain ⟨c, hc, rfl⟩ := List.mem_map.1 hsm
    have hk := (h c hc).2.2.2
    have hany : cl.any (cloB K d) = true := List.any_eq_true.2 ⟨c, hc, by unfold cloB; simp only [decide_eq_true_eq]; simp only at h1 h2; omega⟩
    have hsh : shutF wk hs cl K d = true := by
      unfold shutF
      rw [hany]
      split <;> rfl
    simp [hsh] at hd) n
  rw [hn, show f + (u - f + 1) - 1 = u by omega] at hc
  exact hc

end Go.Proofs.YtkcmkpljpmfiaaaDoor
