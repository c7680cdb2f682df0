/-
  Package holiday: what the rules give in a year (plain).
-/
import Derived.Test.YtkcmkpljpmfiaaaDoorHoF
import Derived.Test.YtkcmkpljpmfiaaaDoorCoP
namespace Go.Proofs.YtkcmkpljpmfiaaaDoor

/-- The day that a rule names. -/
def nomH (h : Hol) (y : Int) : Int × Bool :=
  if h.kind = 1 then nom1 y h.mon h.dom else if h.kind = 2 then nom2 y h.mon h.wk h.nth else if h.kind = 3 then nom3 y h.mon h.wk else nom4 y h.off
/-- The move of a day off. -/
def movF (v d : Int) : Int := movTab.getD (v.toNat * 7 + (d % 7).toNat) 0
def dayH (h : Hol) (y : Int) : Int := (nomH h y).1 + movF h.mov (nomH h y).1
/-- The days of a year, with their rules' places. -/
def ofF (hs : List Hol) (y : Int) (i : Nat) : List (Int × Int) :=
  match hs with
  | [] => []
  | h :: r => (if (nomH h y).2 = true then [(dayH h y, (i : Int))] else []) ++ ofF r y (i + 1)
theorem movF_in (v d : Int) : -1 ≤ movF v d ∧ movF v d ≤ 2 := by
  unfold movF
  have h : ∀ k : Nat, -1 ≤ movTab.getD k 0 ∧ movTab.getD k 0 ≤ 2 := by
    intro k
    by_cases hk : k < 21
    · have := (by decide : ∀ k < 21, -1 ≤ movTab.getD k 0 ∧ movTab.getD k 0 ≤ 2)
      exact this k hk
    · have hl : movTab.length = 21 := rfl
      rw [List.getD_eq_getElem?_getD, List.getElem?_eq_none (by omega)]
      decide
  exact h _
theorem nomH_in {h : Hol} (hi : HolIn h) {y : Int} (hy : 2024 ≤ y ∧ y ≤ 2030) : -100 ≤ (nomH h y).1 ∧ (nomH h y).1 ≤ 780000 ∧ ((nomH h y).2 = true → 700000 ≤ (nomH h y).1) := by
  have hk1 := hi.k1
  have hk4 := hi.k4
  unfold nomH
  split
  · next hk =>
    have hm : 1 ≤ h.mon ∧ h.mon ≤ 4 := ⟨hi.m1 (by omega), hi.m4 (by omega)⟩
    have hd : 1 ≤ h.dom ∧ h.dom ≤ 31 := ⟨hi.d1 hk, hi.d31 hk⟩
    have h1 := dayF_in (y := y) (by omega) hm hd
    refine ⟨?_, ?_, fun he => ?_⟩
    · show -100 ≤ (dayF y h.mon h.dom).1; omega
    · show (dayF y h.mon h.dom).1 ≤ 780000; omega
    · show 700000 ≤ (dayF y h.mon h.dom).1
      have he : ((dayF y h.mon h.dom).2 == 0) = true := he
      have hn := numF_in (y := y) (m := h.mon) (d := h.dom) (by omega) (by omega) (by omega)
      unfold dayF at he ⊢
      by_cases hl : lenF y h.mon < h.dom
      · rw [if_pos hl] at he; simp at he
      · rw [if_neg hl]; show 700000 ≤ numF y h.mon h.dom; omega
  · split
    · next hk =>
      have hm : 1 ≤ h.mon ∧ h.mon ≤ 4 := ⟨hi.m1 (by omega), hi.m4 (by omega)⟩
      have h1 := firD_in (y := y) (by omega) hm
      have h2 := firF_in (y := y) (k := h.wk) (by omega) hm
      have := hi.n1 hk
      have := hi.n5 hk
      refine ⟨?_, ?_, fun _ => ?_⟩
      · show -100 ≤ firF y h.mon h.wk + 7 * (h.nth - 1); omega
      · show firF y h.mon h.wk + 7 * (h.nth - 1) ≤ 780000; omega
      · show 700000 ≤ firF y h.mon h.wk + 7 * (h.nth - 1); omega
    · split
      · next hk =>
        have hm : 1 ≤ h.mon ∧ h.mon ≤ 4 := ⟨hi.m1 (by omega), hi.m4 (by omega)⟩
        have h1 := firD_in (y := y) (by omega) hm
        have h2 := firF_in (y := y) (k := h.wk) (by omega) hm
        have h3 := lenF_in (y := y) hm
        refine ⟨?_, ?_, fun _ => ?_⟩
        · show -100 ≤ firF y h.mon h.wk + (firD y h.mon + lenF y h.mon - 1 - firF y h.mon h.wk) / 7 * 7; omega
        · show firF y h.mon h.wk + (firD y h.mon + lenF y h.mon - 1 - firF y h.mon h.wk) / 7 * 7 ≤ 780000; omega
        · show 700000 ≤ firF y h.mon h.wk + (firD y h.mon + lenF y h.mon - 1 - firF y h.mon h.wk) / 7 * 7; omega
      · have h1 := eaF_in hy
        have := hi.o0
        have := hi.o1
        refine ⟨?_, ?_, fun _ => ?_⟩
        · show -100 ≤ eaF y + h.off; omega
        · show eaF y + h.off ≤ 780000; omega
        · show 700000 ≤ eaF y + h.off; omega

theorem ofF_len : ∀ (hs : List Hol) (y : Int) (i : Nat), (ofF hs y i).length ≤ hs.length
  | [], _, _ => by simp [ofF]
  | h :: r, y, i => by
    have := ofF_len r y (i + 1)
    rw [ofF, List.length_append, List.length_cons]
    split <;> simp <;> omega
/-- Is a day a day off? -/
def isF (hs : List Hol) (d : Int) : Bool := [yrF d - 1, yrF d, yrF d + 1].any fun y => (ofF hs y 0).any fun x => x.1 == d

end Go.Proofs.YtkcmkpljpmfiaaaDoor
