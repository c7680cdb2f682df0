/-
  Merge, Days, Extend, Used of valid spans as functions of the list.
-/
import Derived.Test.YtkcmkpljpmfiaaaDoorMpl
import Derived.Test.YtkcmkpljpmfiaaaDoorSam
namespace Go.Proofs.YtkcmkpljpmfiaaaDoor
open Go.RowKit

theorem merge_fun (l : List (Int × Int)) (v : Value) (w : World) (hx : IsSps w v l) (hl : l.length ≤ 100000) (hb : SpB l) (hv : ValSp l) :
    Calls Tryd.prog 13 #[v] w fun e w' => ∃ v', e = .returned v' ∧ IsSps w' v' (mrg l) ∧ Below w.heap.size w w' := by
  refine (merge_any l v w hx hl hb).mono ?_
  rintro e w' ⟨v', rfl, l', hp, hr, hb'⟩
  rw [mrgF_eq hv hp.1 hp.2] at hr
  exact ⟨v', rfl, hr, hb'⟩
theorem days_fun (l : List (Int × Int)) (v : Value) (f u : Int) (w : World) (hx : IsSps w v l) (hl : l.length ≤ 100000) (hb : SpB l) (hv : ValSp l) (hf : DayB f) (hu : DayB u) :
    Calls Tryd.prog 9 #[v, .int .i64 f, .int .i64 u] w fun e w' => e = .returned (.int .i64 (daysF f u (mrg l))) ∧ Below w.heap.size w w' := by
  refine (days_any l v f u w hx hl hb hf hu).mono ?_
  rintro e w' ⟨n, rfl, l', hp, hr, hb'⟩
  rw [mrgF_eq hv hp.1 hp.2] at hr
  subst hr
  exact ⟨rfl, hb'⟩
theorem extend_fun (l : List (Int × Int)) (v : Value) (st due : Int) (w : World) (hx : IsSps w v l) (hl : l.length ≤ 100000) (hb : SpB l) (hv : ValSp l) (hst : DayB st) (hdue : DayB due) :
    Calls Tryd.prog 6 #[.int .i64 st, .int .i64 due, v] w fun e w' => e = .returned (.tuple #[.int .i64 (extF st due (mrg l)).1, .int .i64 (extF st due (mrg l)).2]) ∧ Below w.heap.size w w' := by
  refine (extend_any l v st due w hx hl hb hst hdue).mono ?_
  rintro e w' ⟨x, y, rfl, l', hp, hr, hb'⟩
  rw [mrgF_eq hv hp.1 hp.2] at hr
  rw [← hr]
  exact ⟨rfl, hb'⟩
theorem used_fun (l : List (Int × Int)) (v : Value) (st due : Int) (w : World) (hx : IsSps w v l) (hl : l.length ≤ 100000) (hb : SpB l) (hv : ValSp l) (hst : DayB st) (hdue : DayB due) :
    Calls Tryd.prog 17 #[.int .i64 st, .int .i64 due, v] w fun e w' => ∃ v', e = .returned v' ∧ IsSps w' v' (usedF st due (mrg l) l) ∧ Below w.heap.size w w' := by
  refine (used_any l v st due w hx hl hb hst hdue).mono ?_
  rintro e w' ⟨v', rfl, l', hp, hr, hb'⟩
  rw [mrgF_eq hv hp.1 hp.2] at hr
  exact ⟨v', rfl, hr, hb'⟩

/-! ### bounds of an extension (plain) -/
/-- No span of the list is longer than c days. -/
def Short (c : Int) (m : List (Int × Int)) : Prop := ∀ s ∈ m, s.2 - s.1 + 1 ≤ c

theorem extGo_le {st c : Int} (hc : 0 ≤ c) : ∀ (m : List (Int × Int)) (due : Int), Short c m → due ≤ extGo st due m ∧ extGo st due m ≤ due + c * (m.length : Int)
  | [], due, _ => by simp [extGo]
  | s :: r, due, h => by
    have hs := h s (by simp)
    have hr : Short c r := fun x hx => h x (by simp [hx])
    unfold extGo
    by_cases hlt : due < s.1
    · rw [if_pos hlt]
      refine ⟨Int.le_refl _, ?_⟩
      have : 0 ≤ c * ((s :: r).length : Int) := Int.mul_nonneg hc (by omega)
      omega
    · rw [if_neg hlt]
      obtain ⟨h1, h2⟩ := extGo_le (st := st) hc r (due + max 0 (s.2 - max s.1 (st + 1) + 1)) hr
      have hl : (((s :: r).length : Nat) : Int) = (r.length : Int) + 1 := by simp
      rw [hl, Int.mul_add, Int.mul_one]
      generalize c * (r.length : Int) = q at *
      omega

/-- What covers the merged spans covers the list: their days lie between the same bounds. -/
theorem mrg_in {l : List (Int × Int)} {lo hi : Int} (hv : ValSp l) (h : ∀ s ∈ l, lo ≤ s.1 ∧ s.2 ≤ hi) : ∀ s ∈ mrg l, lo ≤ s.1 ∧ s.2 ≤ hi := by
  intro s hs
  obtain ⟨g1, g2, g3⟩ := mrg_law hv
  have hsv := g1 s hs
  obtain ⟨t, ht, h1, h2⟩ := (g3 s.1).1 ⟨s, hs, Int.le_refl _, hsv⟩
  obtain ⟨u, hu, h3, h4⟩ := (g3 s.2).1 ⟨s, hs, hsv, Int.le_refl _⟩
  have := h t ht
  have := h u hu
  omega
theorem mrg_len (l : List (Int × Int)) : (mrg l).length ≤ l.length := by
  have := mrgF_len (l.mergeSort (fun a b => decide (a.1 ≤ b.1)))
  rw [List.length_mergeSort] at this
  exact this

end Go.Proofs.YtkcmkpljpmfiaaaDoor
