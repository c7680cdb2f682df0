/-
  The examples of chapter 20 in plain words.
-/
import Derived.Test.YtbiedadgejgnoaaRtA
namespace Go.Proofs.Ytbiedadgejgnoaa

def exC : List (Int × Int) := [(0, 0), (0, 1)]
def exFirst : Ret := ⟨0, 1, 103, 105⟩
def exNever : Ret := ⟨1, 3, 0, 0⟩
def exOne : List Ret := [exFirst]
def exTwo : List Ret := [exFirst, exNever]
def exThree : List Ret := [exFirst, exNever, exNever]
def exFour : List Ret := [exFirst, ⟨0, 1, 105, 110⟩, ⟨0, 2, 0, 104⟩]

theorem exc2 (l : List Ret) (d : Int) : excF l exC d = max 0 ((nW l 0 d : Int) - 0) + max 0 ((nW l 1 d : Int) - 1) := by
  show (0 : Int) + max 0 ((nW l _ d : Int) - 0) + max 0 ((nW l _ d : Int) - 1) = _
  rw [Int.zero_add]
  rfl

theorem alw_lit {l : List Ret} {out : List (Int × Int)} {nv : Bool} (least : Int) (hv : ValSp out) (ha : Apart out) (hc : ∀ s ∈ out, 100 ≤ s.1 ∧ s.2 ≤ 3652058) (h1 : ∀ d, 100 ≤ d → d ≤ 3652058 → (Cov out d ↔ excF l exC d = least))
    (h2 : ∀ p, Poss 100 p → least ≤ excF l exC p) (h3 : ∃ p, Poss 100 p ∧ excF l exC p = least) (h4 : nv = true ↔ excF l exC (-1) = least) : Alw l exC 100 out nv := by
  obtain ⟨q, hq, hqe⟩ := h3
  refine ⟨hv, ha, fun d => ⟨fun h => ?_, fun ⟨g1, g2, g3⟩ => ?_⟩, h4.trans ⟨fun h p hp => by rw [h]; exact h2 p hp, fun h => ?_⟩⟩
  · obtain ⟨s, hs, g1, g2⟩ := h
    have hb := hc s hs
    have hd1 : 100 ≤ d := by omega
    have hd2 : d ≤ 3652058 := by omega
    refine ⟨hd1, hd2, fun p hp => ?_⟩
    rw [(h1 d hd1 hd2).1 ⟨s, hs, g1, g2⟩]
    exact h2 p hp
  · refine (h1 d g1 g2).2 ?_
    have := g3 q hq
    have := h2 d (.inr ⟨g1, g2⟩)
    omega
  · have := h q hq
    have := h2 (-1) (.inl rfl)
    omega

def oneIf (p : Prop) [Decidable p] : Int := if p then 1 else 0
theorem nW_nil (c d : Int) : nW [] c d = 0 := rfl
theorem exFirst_w (d : Int) : wrongB exFirst d = true ↔ (d < 103 ∨ 105 < d) := by
  rw [wrongB_1 rfl, Bool.or_eq_true, decide_eq_true_eq, decide_eq_true_eq]; exact Iff.rfl
theorem exNever_w (d : Int) : wrongB exNever d = true ↔ 0 ≤ d := by
  rw [wrongB_3 (by decide) (by decide)]; simp
theorem exF2_w (d : Int) : wrongB ⟨0, 1, 105, 110⟩ d = true ↔ (d < 105 ∨ 110 < d) := by
  rw [wrongB_1 rfl]; simp
theorem exF3_w (d : Int) : wrongB ⟨0, 2, 0, 104⟩ d = true ↔ (0 ≤ d ∧ d ≤ 104) := by
  rw [wrongB_2 rfl]; simp

theorem mx0 : max (0 : Int) (-1) = 0 := by decide
theorem exc_one (d : Int) : excF exOne exC d = if d < 103 ∨ 105 < d then 1 else 0 := by
  rw [exc2]
  unfold exOne
  by_cases hp : d < 103 ∨ 105 < d
  · simp only [nW_cons, nW_nil, exFirst_w, show exFirst.car = 0 from rfl, hp]; decide
  · simp only [nW_cons, nW_nil, exFirst_w, show exFirst.car = 0 from rfl, hp]; decide
theorem exc_two (d : Int) : excF exTwo exC d = if d < 103 ∨ 105 < d then 1 else 0 := by
  rw [exc2]
  unfold exTwo
  by_cases hp : d < 103 ∨ 105 < d <;> by_cases hq : 0 ≤ d
  all_goals simp only [nW_cons, nW_nil, exFirst_w, exNever_w, show exFirst.car = 0 from rfl, show exNever.car = 1 from rfl, hp, hq]; decide
theorem exc_three (d : Int) : excF exThree exC d = (if d < 103 ∨ 105 < d then 1 else 0) + (if 0 ≤ d then 1 else 0) := by
  rw [exc2]
  unfold exThree
  by_cases hp : d < 103 ∨ 105 < d <;> by_cases hq : 0 ≤ d
  all_goals simp only [nW_cons, nW_nil, exFirst_w, exNever_w, show exFirst.car = 0 from rfl, show exNever.car = 1 from rfl, hp, hq]; decide
theorem exc_four (d : Int) : excF exFour exC d = (if d < 103 ∨ 105 < d then 1 else 0) + (if d < 105 ∨ 110 < d then 1 else 0) + (if 0 ≤ d ∧ d ≤ 104 then 1 else 0) := by
  rw [exc2]
  unfold exFour
  by_cases hp : d < 103 ∨ 105 < d <;> by_cases hq : d < 105 ∨ 110 < d <;> by_cases hr : 0 ≤ d ∧ d ≤ 104
  all_goals simp only [nW_cons, nW_nil, exFirst_w, exF2_w, exF3_w, show exFirst.car = 0 from rfl, hp, hq, hr]; decide
theorem exc_nil (d : Int) : excF [] exC d = 0 := by rw [exc2]; simp [nW_nil, mx0]

theorem cov_one (a b d : Int) : Cov [(a, b)] d ↔ (a ≤ d ∧ d ≤ b) := by
  constructor
  · rintro ⟨s, hs, h⟩
    simp at hs
    subst hs
    exact h
  · intro h
    exact ⟨(a, b), by simp, h⟩
theorem val_one {a b : Int} (h : a ≤ b) : ValSp [(a, b)] := fun s hs => by simp at hs; subst hs; exact h
theorem apart_one (x : Int × Int) : Apart [x] := by unfold Apart; simp

theorem alw_one : Alw exOne exC 100 [(103, 105)] false := by
  refine alw_lit 0 (val_one (by omega)) (apart_one _) (by simp) (fun d h1 h2 => ?_) (fun p hp => ?_) ⟨103, .inr (by omega), ?_⟩ ?_
  · rw [cov_one, exc_one]; split <;> omega
  · rw [exc_one]; split <;> omega
  · rw [exc_one]; rfl
  · rw [exc_one]; simp
theorem alw_two : Alw exTwo exC 100 [(103, 105)] false := by
  refine alw_lit 0 (val_one (by omega)) (apart_one _) (by simp) (fun d h1 h2 => ?_) (fun p hp => ?_) ⟨103, .inr (by omega), ?_⟩ ?_
  · rw [cov_one, exc_two]; split <;> omega
  · rw [exc_two]; split <;> omega
  · rw [exc_two]; rfl
  · rw [exc_two]; simp
theorem alw_three : Alw exThree exC 100 [(103, 105)] true := by
  refine alw_lit 1 (val_one (by omega)) (apart_one _) (by simp) (fun d h1 h2 => ?_) (fun p hp => ?_) ⟨103, .inr (by omega), ?_⟩ ?_
  · rw [cov_one, exc_three]; repeat' split
    all_goals omega
  · rw [exc_three]
    rcases hp with rfl | ⟨h1, h2⟩
    · decide
    · repeat' split
      all_goals omega
  · rw [exc_three]; rfl
  · rw [exc_three]; simp
theorem alw_four : Alw exFour exC 100 [(105, 105)] false := by
  refine alw_lit 0 (val_one (by omega)) (apart_one _) (by simp) (fun d h1 h2 => ?_) (fun p hp => ?_) ⟨105, .inr (by omega), ?_⟩ ?_
  · rw [cov_one, exc_four]; repeat' split
    all_goals omega
  · rw [exc_four]; repeat' split
    all_goals omega
  · rw [exc_four]; rfl
  · rw [exc_four]; simp
theorem alw_nil {cs : List (Int × Int)} {sent : Int} (hs : sent ≤ 3652058) (h0 : ∀ d, excF [] cs d = 0) : Alw [] cs sent [(sent, 3652058)] true := by
  refine ⟨val_one hs, apart_one _, fun d => ?_, ?_⟩
  · rw [cov_one]
    exact ⟨fun ⟨h1, h2⟩ => ⟨h1, h2, fun p _ => by rw [h0, h0]; exact Int.le_refl _⟩, fun ⟨h1, h2, _⟩ => ⟨h1, h2⟩⟩
  · exact ⟨fun _ p _ => by rw [h0, h0]; exact Int.le_refl _, fun _ => rfl⟩

end Go.Proofs.Ytbiedadgejgnoaa
