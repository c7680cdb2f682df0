/-
  What further spans do to an extension (plain, for TollingGrows and TollingCourts). No program in sight.
-/
import Derived.Test.YtkcmkpljpmfiaaaCtP
import Derived.Test.YtkcmkpljpmfiaaaFun
namespace Go.Proofs.Ytkcmkpljpmfiaaa

/-- More covered days: fewer free ones. -/
theorem freeF_more {st : Int} {M M' : List (Int × Int)} (ha : Apart M) (hv : ValSp M) (ha' : Apart M') (hv' : ValSp M') (h : ∀ d, Cov M d → Cov M' d) : ∀ n : Nat, freeF st (st + n) M' ≤ freeF st (st + n) M
  | 0 => by rw [show st + ((0 : Nat) : Int) = st from by omega, freeF_start, freeF_start]; exact Int.le_refl _
  | n + 1 => by
    have ih := freeF_more (st := st) ha hv ha' hv' h n
    have e : st + ((n + 1 : Nat) : Int) = st + (n : Int) + 1 := by omega
    rw [e]
    by_cases hc : Cov M (st + (n : Int) + 1)
    · rw [freeF_in ha hv (by omega) hc, freeF_in ha' hv' (by omega) (h _ hc)]; exact ih
    · rw [freeF_out (M := M) (by omega) hc]
      by_cases hc' : Cov M' (st + (n : Int) + 1)
      · rw [freeF_in ha' hv' (by omega) hc']; omega
      · rw [freeF_out (M := M') (by omega) hc']; omega
theorem freeF_same {st x : Int} {M M' : List (Int × Int)} (ha : Apart M) (hv : ValSp M) (ha' : Apart M') (hv' : ValSp M') (h : ∀ d, st < d → d ≤ x → (Cov M d ↔ Cov M' d)) : ∀ n : Nat, st + n ≤ x → freeF st (st + n) M' = freeF st (st + n) M
  | 0, _ => by rw [show st + ((0 : Nat) : Int) = st from by omega, freeF_start, freeF_start]
  | n + 1, hn => by
    have ih := freeF_same ha hv ha' hv' h n (by omega)
    have e : st + ((n + 1 : Nat) : Int) = st + (n : Int) + 1 := by omega
    rw [e] at hn ⊢
    have hh := h (st + (n : Int) + 1) (by omega) hn
    by_cases hc : Cov M (st + (n : Int) + 1)
    · rw [freeF_in ha hv (by omega) hc, freeF_in ha' hv' (by omega) (hh.1 hc)]; exact ih
    · rw [freeF_out (M := M) (by omega) hc, freeF_out (M := M') (by omega) (fun h => hc (hh.2 h)), ih]

/-- A further span does not make the result less. -/
theorem ext_more {st due : Int} {M M' : List (Int × Int)} (ha : Apart M) (hv : ValSp M) (ha' : Apart M') (hv' : ValSp M') (hlt : st < due) (h : ∀ d, Cov M d → Cov M' d) : extGo st due M ≤ extGo st due M' := by
  have h1 := ext_from (st := st) M' due
  have h2 := freeF_ext ha' hv' hlt
  refine Int.not_lt.1 (fun hc => ?_)
  have h3 := freeF_lt (d := extGo st due M') ha hv hlt (by omega) hc
  have h4 := freeF_more (st := st) ha hv ha' hv' h (extGo st due M' - st).toNat
  rw [show st + (((extGo st due M' - st).toNat : Nat) : Int) = extGo st due M' from by omega] at h4
  omega
/-- Only the days behind the start up to the result count. -/
theorem ext_same_days {st due : Int} {M M' : List (Int × Int)} (ha : Apart M) (hv : ValSp M) (ha' : Apart M') (hv' : ValSp M') (hlt : st < due) (h : ∀ d, st < d → d ≤ extGo st due M → (Cov M d ↔ Cov M' d)) : extGo st due M' = extGo st due M := by
  have h1 := ext_from (st := st) M due
  have h1' := ext_from (st := st) M' due
  have h2 := freeF_ext ha hv hlt
  have h2' := freeF_ext ha' hv' hlt
  rcases Int.lt_trichotomy (extGo st due M') (extGo st due M) with hc | hc | hc
  · have h3 := freeF_lt (d := extGo st due M') ha hv hlt (by omega) hc
    have h4 := freeF_same ha hv ha' hv' h (extGo st due M' - st).toNat (by omega)
    rw [show st + (((extGo st due M' - st).toNat : Nat) : Int) = extGo st due M' from by omega] at h4
    omega
  · exact hc
  · have h3 := freeF_lt (d := extGo st due M) ha' hv' hlt (by omega) hc
    have h4 := freeF_same ha hv ha' hv' h (extGo st due M - st).toNat (by omega)
    rw [show st + (((extGo st due M - st).toNat : Nat) : Int) = extGo st due M from by omega] at h4
    omega

theorem cov_append {l m : List (Int × Int)} {d : Int} : Cov (l ++ m) d ↔ Cov l d ∨ Cov m d := by
  unfold Cov
  constructor
  · rintro ⟨s, hs, h⟩
    rcases List.mem_append.1 hs with hs | hs
    · exact .inl ⟨s, hs, h⟩
    · exact .inr ⟨s, hs, h⟩
  · rintro (⟨s, hs, h⟩ | ⟨s, hs, h⟩)
    · exact ⟨s, by simp [hs], h⟩
    · exact ⟨s, by simp [hs], h⟩
theorem val_append {l m : List (Int × Int)} (h : ValSp l) (h' : ValSp m) : ValSp (l ++ m) := fun s hs => by
  rcases List.mem_append.1 hs with hs | hs
  · exact h s hs
  · exact h' s hs

/-- How far an extension goes if all spans lie between two days. -/
theorem ext_le {st due lo hi : Int} {l : List (Int × Int)} (hv : ValSp l) (hin : ∀ s ∈ l, lo ≤ s.1 ∧ s.2 ≤ hi) (hlo : lo ≤ hi + 1) (hlt : st < due) : extGo st due (mrg l) ≤ due + (hi - lo + 1) := by
  obtain ⟨m1, m2, -⟩ := mrg_law hv
  obtain ⟨k1, -⟩ := ext_days (st := st) (mrg l) due m2 m1 hlt
  have := daysF_le (f := st + 1) (u := extGo st due (mrg l)) (hi := hi) (M := mrg l) (lo := lo) m2 m1 (mrg_in hv hin) hlo
  omega

end Go.Proofs.Ytkcmkpljpmfiaaa
