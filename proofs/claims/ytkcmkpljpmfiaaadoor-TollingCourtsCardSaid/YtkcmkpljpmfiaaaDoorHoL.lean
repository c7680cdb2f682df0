/-
  Package holiday: Between for one day, and Is.
-/
import Derived.Test.YtkcmkpljpmfiaaaDoorHoK
import Derived.Test.YtkcmkpljpmfiaaaDoorLyB
namespace Go.Proofs.YtkcmkpljpmfiaaaDoor
open Go.RowKit

theorem yrF_in {d : Int} (h : 739500 ≤ d ∧ d ≤ 740000) : 2025 ≤ yrF d ∧ yrF d ≤ 2027 := by
  have h5 : (d + 306) / 146097 = 5 := by omega
  have hE : (d + 306) % 146097 = d + 306 - 146097 * 5 := by omega
  have hy : yoeF d = (d + 306 - 146097 * 5 - (d + 306 - 146097 * 5) / 1460) / 365 := by
    unfold yoeF
    rw [hE]
    have h6 : (d + 306 - 146097 * 5) / 36524 = 0 := by omega
    have h7 : (d + 306 - 146097 * 5) / 146096 = 0 := by omega
    rw [h6, h7]
    omega
  have hq : (d + 306 - 146097 * 5) / 1460 = 6 := by omega
  rw [hq] at hy
  unfold yrF
  rw [h5]
  split <;> omega

def hasF (hs : List Hol) (d y : Int) : Bool := (ofF hs y 0).any fun x => x.1 == d
theorem isF_three (hs : List Hol) (d : Int) : isF hs d = (List.range 3).any fun i => hasF hs d (yrF d - 1 + (i : Nat)) := by
  show [yrF d - 1, yrF d, yrF d + 1].any (hasF hs d) = [0, 1, 2].any fun i : Nat => hasF hs d (yrF d - 1 + (i : Nat))
  simp only [List.any_cons, List.any_nil]
  have e0 : yrF d - 1 + ((0 : Nat) : Int) = yrF d - 1 := by omega
  have e1 : yrF d - 1 + ((1 : Nat) : Int) = yrF d := by omega
  have e2 : yrF d - 1 + ((2 : Nat) : Int) = yrF d + 1 := by omega
  rw [e0, e1, e2]
theorem any_perm {l l' : List (Int × Int)} (p : Int × Int → Bool) (h : l'.Perm l) : l'.any p = l.any p := by
  rw [Bool.eq_iff_iff, List.any_eq_true, List.any_eq_true]
  constructor <;> rintro ⟨x, hx, hp⟩
  · exact ⟨x, h.mem_iff.1 hx, hp⟩
  · exact ⟨x, h.mem_iff.2 hx, hp⟩

/-- Compact of less than two. -/
theorem compact0_any (p : Option Addr) (cap : Nat) (w : World) :
    Calls Tryd.prog 47 #[.slice p 0 cap] w fun e w' => e = .returned (.slice p 0 cap) ∧ w' = w := by
  go_enter Tryd.func47, Tryd.ntmps47
  go_wp2_with fail
  go_ret
  exact ⟨rfl, rfl⟩

/-- Sort and Compact of so many equal days: how many are left. -/
theorem sortC_any (B E : Nat) (v : Value) (c : Nat) (d : Int) (w : World) (hown : w.ownsRow B E 1 v c (ints (List.replicate c d))) (hl : c ≤ 1000) :
    Calls Tryd.prog 46 #[v] w fun e w' => e = .returned (.tuple #[]) ∧ w'.ownsRow B E 1 v c (ints (List.replicate c d)) ∧ w.grownBy w' v.ownBlock := by
  rcases Nat.eq_zero_or_pos c with rfl | hpos
  · obtain ⟨a, cap, rfl, -, -⟩ := owns_slice hown
    refine Calls.mono (slices_Sort_int_none a cap w) ?_
    rintro e w' ⟨rfl, rfl⟩
    exact ⟨rfl, hown, grown_more (grown_of_below (Below.refl _ _))⟩
  · obtain ⟨g, cap, rfl, hBg, hgl, -⟩ := owns_some hown hpos
    have hlen : (List.replicate c d).length = c := by simp
    have h := sortI_any B E g cap (List.replicate c d) w (by rw [hlen]; exact hown) (by rw [hlen]; omega)
    rw [hlen] at h
    refine Calls.mono h ?_
    rintro e w' ⟨rfl, ys, hys, ho, hg⟩
    have hy : ys = List.replicate c d := by
      have hp := hys.out.1
      rw [List.eq_replicate_iff]
      exact ⟨by rw [hp.length_eq, hlen], fun b hb => List.eq_of_mem_replicate (hp.mem_iff.1 hb)⟩
    rw [hy] at ho
    exact ⟨rfl, ho, hg⟩
theorem compC_any (B E : Nat) (v : Value) (c : Nat) (d : Int) (w : World) (hown : w.ownsRow B E 1 v c (ints (List.replicate c d))) (hl : c ≤ 1000) :
    Calls Tryd.prog 47 #[v] w fun e w' => (∃ a n cap, e = .returned (.slice a n cap) ∧ n ≤ 1000 ∧ (0 < n ↔ 0 < c)) ∧ w.grownBy w' v.ownBlock := by
  rcases Nat.eq_zero_or_pos c with rfl | hpos
  · obtain ⟨a, cap, rfl, -, -⟩ := owns_slice hown
    refine Calls.mono (compact0_any a cap w) ?_
    rintro e w' ⟨rfl, rfl⟩
    exact ⟨⟨_, _, _, rfl, by omega, Iff.rfl⟩, grown_more (grown_of_below (Below.refl _ _))⟩
  · obtain ⟨g, cap, rfl, hBg, hgl, -⟩ := owns_some hown hpos
    have hlen : (List.replicate c d).length = c := by simp
    have h := compactI_any B E g cap (List.replicate c d) w (by rw [hlen]; exact hown) (by rw [hlen]; omega)
    rw [hlen] at h
    refine Calls.mono h ?_
    rintro e w' ⟨rfl, ho, hg⟩
    have hle := compact_le (List.replicate c d)
    rw [hlen] at hle
    have hmem := (compact_law (zs := List.replicate c d) (by
      rw [List.pairwise_replicate]; exact .inr (Int.le_refl _))).2 d
    have hd : d ∈ Lib.compact (List.replicate c d) := hmem.2 (by rw [List.mem_replicate]; exact ⟨by omega, rfl⟩)
    have hp := List.length_pos_of_mem hd
    exact ⟨⟨_, _, _, rfl, by omega, by omega⟩, hg⟩

end Go.Proofs.YtkcmkpljpmfiaaaDoor
