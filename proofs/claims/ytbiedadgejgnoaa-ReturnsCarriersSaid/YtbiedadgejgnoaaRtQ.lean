/-
  What the reference of Allowed puts together is what is allowed (plain). No program in sight.
-/
import Derived.Test.YtbiedadgejgnoaaRtN
namespace Go.Proofs.Ytbiedadgejgnoaa

/-- Each day lies between two points. -/
theorem SegPts.find {l : List Ret} {sent : Int} {ds : List Int} (h : SegPts l sent ds) (hs : sent ≤ 3652058) {d : Int} (h1 : sent ≤ d) (h2 : d ≤ 3652058) : ∃ j, ∃ hj : j + 1 < ds.length, ds[j] ≤ d ∧ d ≤ ds[j + 1] - 1 := by
  obtain ⟨h0, hf⟩ := h.first hs
  obtain ⟨hl, hla⟩ := h.last hs
  have key : ∀ m, ∀ hm : m < ds.length, d < ds[m] → ∃ j, ∃ hj : j + 1 < ds.length, ds[j] ≤ d ∧ d ≤ ds[j + 1] - 1 := by
    intro m
    induction m with
    | zero => intro hm hd; omega
    | succ m ih =>
      intro hm hd
      by_cases hc : d < ds[m]
      · exact ih (by omega) hc
      · exact ⟨m, hm, by omega, by omega⟩
  exact key (ds.length - 1) (by omega) (by omega)

/-- The least excess of the first i points and of no delivery. -/
def LeastAt (l : List Ret) (cs : List (Int × Int)) (ds : List Int) (i : Nat) (t : Int) : Prop :=
  t ≤ excF l cs (-1) ∧ (∀ j (h : j < ds.length), j < i → t ≤ excF l cs ds[j]) ∧ (t = excF l cs (-1) ∨ ∃ j, ∃ h : j < ds.length, j < i ∧ t = excF l cs ds[j])
theorem LeastAt.start (l : List Ret) (cs : List (Int × Int)) (ds : List Int) : LeastAt l cs ds 0 (excF l cs (-1)) := ⟨Int.le_refl _, fun _ _ h => absurd h (Nat.not_lt_zero _), .inl rfl⟩
theorem LeastAt.less {l : List Ret} {cs : List (Int × Int)} {ds : List Int} {i : Nat} {t : Int} (h : LeastAt l cs ds i t) (hi : i < ds.length) (hlt : excF l cs ds[i] < t) : LeastAt l cs ds (i + 1) (excF l cs ds[i]) := by
  obtain ⟨h1, h2, h3⟩ := h
  refine ⟨by omega, fun j hj hji => ?_, .inr ⟨i, hi, by omega, rfl⟩⟩
  rcases Nat.lt_succ_iff_lt_or_eq.1 hji with h' | rfl
  · have := h2 j hj h'; omega
  · exact Int.le_refl _
theorem LeastAt.same {l : List Ret} {cs : List (Int × Int)} {ds : List Int} {i : Nat} {t : Int} (h : LeastAt l cs ds i t) (hi : i < ds.length) (hle : t ≤ excF l cs ds[i]) : LeastAt l cs ds (i + 1) t := by
  obtain ⟨h1, h2, h3⟩ := h
  refine ⟨h1, fun j hj hji => ?_, ?_⟩
  · rcases Nat.lt_succ_iff_lt_or_eq.1 hji with h' | rfl
    · exact h2 j hj h'
    · exact hle
  · rcases h3 with h3 | ⟨j, hj, hji, h3⟩
    · exact .inl h3
    · exact .inr ⟨j, hj, by omega, h3⟩

/-- The spans of the first i points with the least excess. -/
structure PickAt (l : List Ret) (cs : List (Int × Int)) (ds : List Int) (t : Int) (i : Nat) (out : List (Int × Int)) : Prop where
  val : ValSp out
  lo : ∀ s ∈ out, 0 ≤ s.1 ∧ s.2 ≤ 3652058
  cov : ∀ d, Cov out d ↔ ∃ j, ∃ hj : j + 1 < ds.length, j < i ∧ excF l cs ds[j] = t ∧ ds[j] ≤ d ∧ d ≤ ds[j + 1] - 1
  len : out.length ≤ i
theorem PickAt.start (l : List Ret) (cs : List (Int × Int)) (ds : List Int) (t : Int) : PickAt l cs ds t 0 [] :=
  ⟨(fun s hs => by cases hs), (fun s hs => by cases hs), fun d => ⟨(fun ⟨s, hs, _⟩ => by cases hs), (fun ⟨j, _, h, _⟩ => absurd h (Nat.not_lt_zero _))⟩, Nat.le_refl _⟩
theorem PickAt.skip {l : List Ret} {cs : List (Int × Int)} {ds : List Int} {t : Int} {i : Nat} {out : List (Int × Int)} (h : PickAt l cs ds t i out) (hi : i < ds.length) (hne : excF l cs ds[i] ≠ t) : PickAt l cs ds t (i + 1) out := by
  refine ⟨h.val, h.lo, fun d => ?_, by have := h.len; omega⟩
  rw [h.cov d]
  constructor
  · rintro ⟨j, hj, a, b⟩
    exact ⟨j, hj, by omega, b⟩
  · rintro ⟨j, hj, a, b⟩
    rcases Nat.lt_succ_iff_lt_or_eq.1 a with h' | rfl
    · exact ⟨j, hj, h', b⟩
    · exact absurd b.1 hne
theorem PickAt.take {l : List Ret} {cs : List (Int × Int)} {sent : Int} {ds : List Int} {t : Int} {i : Nat} {out : List (Int × Int)} (h : PickAt l cs ds t i out) (hseg : SegPts l sent ds) (hs0 : 0 ≤ sent) (hs : sent ≤ 3652058) (hi : i + 1 < ds.length) (he : excF l cs ds[i] = t) : PickAt l cs ds t (i + 1) (out ++ [(ds[i], ds[i + 1] - 1)]) := by
  obtain ⟨g1, g2, g3, -⟩ := hseg.same (cs := cs) hs0 hs hi
  refine ⟨fun s hs => ?_, fun s hs => ?_, fun d => ?_, by have := h.len; simp; omega⟩
  · rcases List.mem_append.1 hs with hs | hs
    · exact h.val s hs
    · simp at hs; subst hs; exact g1
  · rcases List.mem_append.1 hs with hs | hs
    · exact h.lo s hs
    · simp at hs; subst hs; simp only; omega
  · constructor
    · rintro ⟨s, hs, a, b⟩
      rcases List.mem_append.1 hs with hs | hs
      · obtain ⟨j, hj, c, k⟩ := (h.cov d).1 ⟨s, hs, a, b⟩
        exact ⟨j, hj, by omega, k⟩
      · simp at hs
        subst hs
        exact ⟨i, hi, by omega, he, a, b⟩
    · rintro ⟨j, hj, a, b, c, k⟩
      rcases Nat.lt_succ_iff_lt_or_eq.1 a with h' | rfl
      · obtain ⟨s, hs, m⟩ := (h.cov d).2 ⟨j, hj, h', b, c, k⟩
        exact ⟨s, by simp [hs], m⟩
      · exact ⟨(ds[j], ds[j + 1] - 1), by simp, c, k⟩

theorem PickAt.done {l : List Ret} {cs : List (Int × Int)} {sent : Int} {ds : List Int} {t : Int} {i : Nat} {out : List (Int × Int)} (h : PickAt l cs ds t i out) (hlt : LeastAt l cs ds i t) (hi : ds.length = i + 1) (hseg : SegPts l sent ds) (hs0 : 0 ≤ sent) (hs : sent ≤ 3652058) :
    Alw l cs sent (mrg out) (decide (excF l cs (-1) = t)) := by
  obtain ⟨m1, m2, m3⟩ := mrg_law h.val
  obtain ⟨k1, k2, k3⟩ := hlt
  have hge : ∀ p, Poss sent p → t ≤ excF l cs p := by
    intro p hp
    rcases hp with rfl | ⟨a, b⟩
    · exact k1
    · obtain ⟨j, hj, c, d⟩ := hseg.find hs a b
      obtain ⟨-, -, -, g⟩ := hseg.same (cs := cs) hs0 hs hj
      rw [g p c d]
      exact k2 j (by omega) (by omega)
  have hhit : ∃ p, Poss sent p ∧ t = excF l cs p := by
    rcases k3 with k3 | ⟨j, hj, hji, k3⟩
    · exact ⟨-1, .inl rfl, k3⟩
    · have hj1 : j + 1 < ds.length := by omega
      obtain ⟨a, b, c, -⟩ := hseg.same (cs := cs) hs0 hs hj1
      exact ⟨ds[j], .inr ⟨b, by omega⟩, k3⟩
  refine ⟨m1, m2, fun d => ?_, ?_⟩
  · rw [m3 d, h.cov d]
    constructor
    · rintro ⟨j, hj, a, b, c, k⟩
      obtain ⟨g1, g2, g3, g4⟩ := hseg.same (cs := cs) hs0 hs hj
      refine ⟨by omega, by omega, fun p hp => ?_⟩
      rw [g4 d c k, b]
      exact hge p hp
    · rintro ⟨a, b, c⟩
      obtain ⟨j, hj, e1, e2⟩ := hseg.find hs a b
      obtain ⟨-, -, -, g4⟩ := hseg.same (cs := cs) hs0 hs hj
      refine ⟨j, hj, by omega, ?_, e1, e2⟩
      obtain ⟨p, hp, hpt⟩ := hhit
      have h1 := c p hp
      rw [g4 d e1 e2] at h1
      have h2 := k2 j (by omega) (by omega)
      omega
  · rw [decide_eq_true_iff]
    constructor
    · intro e p hp
      rw [e]
      exact hge p hp
    · intro c
      obtain ⟨p, hp, hpt⟩ := hhit
      have := c p hp
      omega

end Go.Proofs.Ytbiedadgejgnoaa
