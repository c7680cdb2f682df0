/-
  Counting day by day (plain, for TollingCounts). No program in sight.
-/
import Derived.Test.YtkcmkpljpmfiaaaDoorMvP
namespace Go.Proofs.YtkcmkpljpmfiaaaDoor

theorem daysF_cons (f u : Int) (s : Int × Int) (r : List (Int × Int)) : daysF f u (s :: r) = dayOf f u s + daysF f u r := by
  have h : ∀ (m : List (Int × Int)) (a : Int), m.foldl (fun n s => n + dayOf f u s) a = a + m.foldl (fun n s => n + dayOf f u s) 0 := by
    intro m
    induction m with
    | nil => intro a; simp
    | cons t m ih => intro a; rw [List.foldl_cons, ih, List.foldl_cons, ih (0 + dayOf f u t)]; omega
  unfold daysF
  rw [List.foldl_cons, h]
  omega
theorem daysF_nil (f u : Int) : daysF f u [] = 0 := rfl
theorem daysF_pos (f u : Int) : ∀ m : List (Int × Int), 0 ≤ daysF f u m
  | [] => Int.le_refl _
  | s :: r => by have := daysF_pos f u r; rw [daysF_cons]; unfold dayOf; omega

theorem cov_nil (d : Int) : ¬ Cov [] d := fun ⟨s, hs, _⟩ => by cases hs

theorem daysF_in {f u : Int} : ∀ {M : List (Int × Int)}, Apart M → ValSp M → f ≤ u + 1 → Cov M (u + 1) → daysF f (u + 1) M = daysF f u M + 1
  | [], _, _, _, h => absurd h (cov_nil _)
  | s :: r, ha, hv, hf, h => by
    have ha' := List.pairwise_cons.1 ha
    rw [daysF_cons, daysF_cons]
    by_cases hs : s.1 ≤ u + 1 ∧ u + 1 ≤ s.2
    · have hr : daysF f (u + 1) r = daysF f u r := by
        have : ∀ r : List (Int × Int), (∀ t ∈ r, u + 1 < t.1) → daysF f (u + 1) r = daysF f u r := by
          intro r
          induction r with
          | nil => intro _; rfl
          | cons t r ih =>
            intro h
            rw [daysF_cons, daysF_cons, ih (fun x hx => h x (by simp [hx]))]
            have := h t (by simp)
            unfold dayOf
            omega
        exact this r (fun t ht => by have := ha'.1 t ht; omega)
      rw [hr]
      unfold dayOf
      omega
    · have hr : Cov r (u + 1) := by
        rcases cov_cons.1 h with h | h
        · exact absurd h hs
        · exact h
      rw [daysF_in ha'.2 (fun x hx => hv x (by simp [hx])) hf hr]
      unfold dayOf
      omega
theorem daysF_out {f u : Int} : ∀ {M : List (Int × Int)}, f ≤ u + 1 → ¬ Cov M (u + 1) → daysF f (u + 1) M = daysF f u M
  | [], _, _ => rfl
  | s :: r, hf, h => by
    rw [cov_cons] at h
    rw [daysF_cons, daysF_cons, daysF_out hf (fun h' => h (.inr h'))]
    have : ¬ (s.1 ≤ u + 1 ∧ u + 1 ≤ s.2) := fun h' => h (.inl h')
    unfold dayOf
    omega
theorem daysF_none {f u : Int} (h : u < f) : ∀ M : List (Int × Int), daysF f u M = 0
  | [] => rfl
  | s :: r => by rw [daysF_cons, daysF_none h r]; unfold dayOf; omega

theorem daysF_le {f u hi : Int} : ∀ {M : List (Int × Int)} {lo : Int}, Apart M → ValSp M → (∀ s ∈ M, lo ≤ s.1 ∧ s.2 ≤ hi) → lo ≤ hi + 1 → daysF f u M ≤ hi - lo + 1
  | [], lo, _, _, _, h => by rw [daysF_nil]; omega
  | s :: r, lo, ha, hv, hin, h => by
    have ha' := List.pairwise_cons.1 ha
    have hs := hin s (by simp)
    have hsv := hv s (by simp)
    have := daysF_le (f := f) (u := u) (hi := hi) (M := r) (lo := s.2 + 1) ha'.2 (fun x hx => hv x (by simp [hx])) (fun t ht => by have := ha'.1 t ht; have := hin t (by simp [ht]); omega) (by omega)
    rw [daysF_cons]
    unfold dayOf
    omega

/-- The result of an extension is not stayed, and the period grew by the stayed days in it. -/
theorem ext_days {st : Int} : ∀ (M : List (Int × Int)) (due : Int), Apart M → ValSp M → st < due → daysF (st + 1) (extGo st due M) M = extGo st due M - due ∧ ¬ Cov M (extGo st due M)
  | [], due, _, _, _ => ⟨by show (0 : Int) = due - due; omega, cov_nil _⟩
  | s :: r, due, ha, hv, hlt => by
    have ha' := List.pairwise_cons.1 ha
    have hsv := hv s (by simp)
    by_cases hd : due < s.1
    · have e : extGo st due (s :: r) = due := by unfold extGo; rw [if_pos hd]
      rw [e]
      have hall : ∀ t ∈ s :: r, due < t.1 := by
        intro t ht
        rcases List.mem_cons.1 ht with rfl | ht
        · exact hd
        · have := ha'.1 t ht; omega
      refine ⟨?_, fun ⟨t, ht, h1, h2⟩ => by have := hall t ht; omega⟩
      have : ∀ r : List (Int × Int), (∀ t ∈ r, due < t.1) → daysF (st + 1) due r = 0 := by
        intro r
        induction r with
        | nil => intro _; rfl
        | cons t r ih =>
          intro h
          rw [daysF_cons, ih (fun x hx => h x (by simp [hx]))]
          have := h t (by simp)
          unfold dayOf
          omega
      rw [this _ hall]
      omega
    · have e : extGo st due (s :: r) = extGo st (due + max 0 (s.2 - max s.1 (st + 1) + 1)) r := by conv => lhs; unfold extGo; rw [if_neg hd]
      rw [e]
      obtain ⟨h1, h2⟩ := ext_days (st := st) r (due + max 0 (s.2 - max s.1 (st + 1) + 1)) ha'.2 (fun x hx => hv x (by simp [hx])) (by omega)
      have h3 := ext_from (st := st) r (due + max 0 (s.2 - max s.1 (st + 1) + 1))
      generalize extGo st (due + max 0 (s.2 - max s.1 (st + 1) + 1)) r = G at *
      refine ⟨?_, ?_⟩
      · rw [daysF_cons, h1]
        unfold dayOf
        omega
      · rw [cov_cons]
        rintro (h | h)
        · omega
        · exact h2 h

/-- The days that are not stayed, from behind st to d. -/
def freeF (st d : Int) (M : List (Int × Int)) : Int := d - st - daysF (st + 1) d M
theorem freeF_start (st : Int) (M : List (Int × Int)) : freeF st st M = 0 := by
  unfold freeF
  rw [daysF_none (by omega)]
  omega
theorem freeF_in {st d : Int} {M : List (Int × Int)} (ha : Apart M) (hv : ValSp M) (hd : st ≤ d) (h : Cov M (d + 1)) : freeF st (d + 1) M = freeF st d M := by
  unfold freeF
  rw [daysF_in ha hv (by omega) h]
  omega
theorem freeF_out {st d : Int} {M : List (Int × Int)} (hd : st ≤ d) (h : ¬ Cov M (d + 1)) : freeF st (d + 1) M = freeF st d M + 1 := by
  unfold freeF
  rw [daysF_out (by omega) h]
  omega
theorem freeF_mono {st d : Int} {M : List (Int × Int)} (ha : Apart M) (hv : ValSp M) (hd : st ≤ d) : ∀ n : Nat, freeF st d M ≤ freeF st (d + n) M
  | 0 => by simp
  | n + 1 => by
    have ih := freeF_mono ha hv hd n
    have e : d + ((n + 1 : Nat) : Int) = d + (n : Int) + 1 := by omega
    rw [e]
    by_cases hc : Cov M (d + (n : Int) + 1)
    · rw [freeF_in ha hv (by omega) hc]; exact ih
    · rw [freeF_out (by omega) hc]; omega
theorem freeF_ext {st due : Int} {M : List (Int × Int)} (ha : Apart M) (hv : ValSp M) (hlt : st < due) : freeF st (extGo st due M) M = due - st := by
  obtain ⟨h1, -⟩ := ext_days M due ha hv hlt
  unfold freeF
  rw [h1]
  omega
theorem freeF_lt {st due d : Int} {M : List (Int × Int)} (ha : Apart M) (hv : ValSp M) (hlt : st < due) (hd : st ≤ d) (hdx : d < extGo st due M) : freeF st d M < due - st := by
  obtain ⟨-, h2⟩ := ext_days M due ha hv hlt
  have h3 := freeF_ext ha hv hlt
  generalize extGo st due M = G at *
  have e : freeF st (G - 1 + 1) M = freeF st (G - 1) M + 1 := freeF_out (by omega) (by rw [show G - 1 + 1 = G from by omega]; exact h2)
  rw [show G - 1 + 1 = G from by omega, h3] at e
  have h4 := freeF_mono ha hv hd (G - 1 - d).toNat
  rw [show d + (((G - 1 - d).toNat : Nat) : Int) = G - 1 from by omega] at h4
  omega

end Go.Proofs.YtkcmkpljpmfiaaaDoor
