/-
  Merged spans in plain words: what they cover, that they are in order and apart, and that this makes them one list. No program in sight.
-/
import Derived.Test.YtkcmkpljpmfiaaaDoorExt
namespace Go.Proofs.YtkcmkpljpmfiaaaDoor

def Cov (l : List (Int × Int)) (d : Int) : Prop := ∃ s ∈ l, s.1 ≤ d ∧ d ≤ s.2
def ValSp (l : List (Int × Int)) : Prop := ∀ s ∈ l, s.1 ≤ s.2
def Apart (l : List (Int × Int)) : Prop := l.Pairwise (fun a b => a.2 + 1 < b.1)
def ApR (l : List (Int × Int)) : Prop := l.Pairwise (fun a b => b.2 + 1 < a.1)

theorem cov_cons {s : Int × Int} {l : List (Int × Int)} {d : Int} : Cov (s :: l) d ↔ (s.1 ≤ d ∧ d ≤ s.2) ∨ Cov l d := by
  unfold Cov
  constructor
  · rintro ⟨t, ht, h⟩
    rcases List.mem_cons.1 ht with rfl | ht
    · exact .inl h
    · exact .inr ⟨t, ht, h⟩
  · rintro (h | ⟨t, ht, h⟩)
    · exact ⟨s, by simp, h⟩
    · exact ⟨t, by simp [ht], h⟩
theorem cov_perm {l m : List (Int × Int)} (h : l.Perm m) (d : Int) : Cov l d ↔ Cov m d := by
  unfold Cov
  constructor
  · rintro ⟨t, ht, h'⟩; exact ⟨t, h.mem_iff.1 ht, h'⟩
  · rintro ⟨t, ht, h'⟩; exact ⟨t, h.mem_iff.2 ht, h'⟩

theorem mrgStep_law {s : Int × Int} {acc : List (Int × Int)} (hv : ValSp acc) (ha : ApR acc) (hs : s.1 ≤ s.2) (hle : ∀ p ∈ acc, p.1 ≤ s.1) :
    ValSp (mrgStep s acc) ∧ ApR (mrgStep s acc) ∧ (∀ p ∈ mrgStep s acc, p.1 ≤ s.1) ∧ ∀ d, Cov (mrgStep s acc) d ↔ Cov (s :: acc) d := by
  cases acc with
  | nil =>
    rw [mrgStep_nil]
    exact ⟨fun x hx => by simp at hx; subst hx; exact hs, by unfold ApR; simp, fun p hp => by simp at hp; subst hp; omega, fun d => Iff.rfl⟩
  | cons p r =>
    have hp := hv p (by simp)
    have hps := hle p (by simp)
    unfold ApR at ha
    rw [List.pairwise_cons] at ha
    by_cases hc : s.1 ≤ p.2 + 1
    · rw [mrgStep_in hc]
      refine ⟨fun x hx => ?_, ?_, fun x hx => ?_, fun d => ?_⟩
      · rcases List.mem_cons.1 hx with rfl | hx
        · simp only; omega
        · exact hv x (by simp [hx])
      · unfold ApR
        rw [List.pairwise_cons]
        exact ⟨ha.1, ha.2⟩
      · rcases List.mem_cons.1 hx with rfl | hx
        · exact hps
        · exact hle x (by simp [hx])
      · rw [cov_cons, cov_cons, cov_cons]
        simp only
        constructor
        · rintro (h | h)
          · by_cases hd : d ≤ p.2
            · exact .inr (.inl ⟨h.1, hd⟩)
            · exact .inl (by omega)
          · exact .inr (.inr h)
        · rintro (h | h | h)
          · exact .inl (by omega)
          · exact .inl (by omega)
          · exact .inr h
    · rw [mrgStep_out hc]
      refine ⟨fun x hx => ?_, ?_, fun x hx => ?_, fun d => Iff.rfl⟩
      · rcases List.mem_cons.1 hx with rfl | hx
        · exact hs
        · exact hv x hx
      · unfold ApR
        rw [List.pairwise_cons, List.pairwise_cons]
        refine ⟨fun q hq => ?_, ha.1, ha.2⟩
        rcases List.mem_cons.1 hq with rfl | hq
        · omega
        · have h1 := ha.1 q hq
          omega
      · rcases List.mem_cons.1 hx with rfl | hx
        · omega
        · exact hle x hx

theorem mrgRev_law : ∀ (l acc : List (Int × Int)), ValSp l → l.Pairwise (fun a b => a.1 ≤ b.1) → ValSp acc → ApR acc → (∀ p ∈ acc, ∀ s ∈ l, p.1 ≤ s.1) →
    ValSp (mrgRev acc l) ∧ ApR (mrgRev acc l) ∧ ∀ d, Cov (mrgRev acc l) d ↔ (Cov acc d ∨ Cov l d)
  | [], acc, _, _, hv, ha, _ => ⟨hv, ha, fun d => ⟨fun h => .inl h, fun h => h.elim id (fun ⟨_, ht, _⟩ => by cases ht)⟩⟩
  | s :: r, acc, hl, hs, hv, ha, hle => by
    rw [List.pairwise_cons] at hs
    obtain ⟨g1, g2, g3, g4⟩ := mrgStep_law hv ha (hl s (by simp)) (fun p hp => hle p hp s (by simp))
    obtain ⟨k1, k2, k3⟩ := mrgRev_law r (mrgStep s acc) (fun x hx => hl x (by simp [hx])) hs.2 g1 g2 (fun p hp t ht => Int.le_trans (g3 p hp) (hs.1 t ht))
    refine ⟨k1, k2, fun d => ?_⟩
    show Cov (mrgRev (mrgStep s acc) r) d ↔ _
    rw [k3 d, g4 d, cov_cons, cov_cons]
    constructor
    · rintro ((h | h) | h)
      · exact .inr (.inl h)
      · exact .inl h
      · exact .inr (.inr h)
    · rintro (h | h | h)
      · exact .inl (.inr h)
      · exact .inl (.inl h)
      · exact .inr h

theorem mrgF_law {l : List (Int × Int)} (hv : ValSp l) (hs : l.Pairwise (fun a b => a.1 ≤ b.1)) : ValSp (mrgF l) ∧ Apart (mrgF l) ∧ ∀ d, Cov (mrgF l) d ↔ Cov l d := by
  obtain ⟨k1, k2, k3⟩ := mrgRev_law l [] hv hs (fun x hx => by cases hx) List.Pairwise.nil (fun p hp => by cases hp)
  refine ⟨fun x hx => k1 x (by simpa [mrgF] using hx), ?_, fun d => ?_⟩
  · unfold Apart mrgF
    rw [List.pairwise_reverse]
    exact k2
  · rw [← show Cov (mrgRev [] l) d ↔ Cov (mrgF l) d from cov_perm (by unfold mrgF; exact (List.reverse_perm _).symm) d, k3 d]
    exact ⟨fun h => h.elim (fun ⟨_, ht, _⟩ => by cases ht) id, .inr⟩

theorem apart_head {a : Int × Int} {A : List (Int × Int)} (h : Apart (a :: A)) (hv : ValSp (a :: A)) : ∀ s ∈ a :: A, a.1 ≤ s.1 := by
  intro s hs
  unfold Apart at h
  rw [List.pairwise_cons] at h
  rcases List.mem_cons.1 hs with rfl | hs
  · exact Int.le_refl _
  · have h1 := h.1 s hs
    have h2 := hv a (by simp)
    omega

theorem apart_tail {a : Int × Int} {A : List (Int × Int)} (h : Apart (a :: A)) (d : Int) : Cov A d ↔ (Cov (a :: A) d ∧ a.2 < d) := by
  unfold Apart at h
  rw [List.pairwise_cons] at h
  rw [cov_cons]
  constructor
  · intro hc
    obtain ⟨s, hs, h1, h2⟩ := hc
    have := h.1 s hs
    exact ⟨.inr ⟨s, hs, h1, h2⟩, by omega⟩
  · rintro ⟨h1 | h1, h2⟩
    · omega
    · exact h1

theorem apart_eq : ∀ (A B : List (Int × Int)), ValSp A → ValSp B → Apart A → Apart B → (∀ d, Cov A d ↔ Cov B d) → A = B
  | [], [], _, _, _, _, _ => rfl
  | [], b :: B, _, hvB, _, _, hc => by
    have h := (hc b.1).2 ⟨b, by simp, Int.le_refl _, hvB b (by simp)⟩
    obtain ⟨s, hs, -⟩ := h
    cases hs
  | a :: A, [], hvA, _, _, _, hc => by
    have h := (hc a.1).1 ⟨a, by simp, Int.le_refl _, hvA a (by simp)⟩
    obtain ⟨s, hs, -⟩ := h
    cases hs
  | a :: A, b :: B, hvA, hvB, hA, hB, hc => by
    have ha := hvA a (by simp)
    have hb := hvB b (by simp)
    have e1 : a.1 = b.1 := by
      obtain ⟨s, hs, h1, h2⟩ := (hc a.1).1 ⟨a, by simp, Int.le_refl _, ha⟩
      obtain ⟨t, ht, h3, h4⟩ := (hc b.1).2 ⟨b, by simp, Int.le_refl _, hb⟩
      have h5 := apart_head hB hvB s hs
      have h6 := apart_head hA hvA t ht
      omega
    have hend : ∀ {x : Int × Int} {X : List (Int × Int)}, Apart (x :: X) → ¬ Cov (x :: X) (x.2 + 1) := by
      intro x X hX
      rintro ⟨s, hs, h1, h2⟩
      unfold Apart at hX
      rw [List.pairwise_cons] at hX
      rcases List.mem_cons.1 hs with rfl | hs
      · omega
      · have := hX.1 s hs; omega
    have e2 : a.2 = b.2 := by
      rcases Int.lt_trichotomy a.2 b.2 with h | h | h
      · exact absurd ((hc (a.2 + 1)).2 ⟨b, by simp, by omega, by omega⟩) (hend hA)
      · exact h
      · exact absurd ((hc (b.2 + 1)).1 ⟨a, by simp, by omega, by omega⟩) (hend hB)
    have hab : a = b := Prod.ext e1 e2
    subst hab
    rw [apart_eq A B (fun x hx => hvA x (by simp [hx])) (fun x hx => hvB x (by simp [hx])) (List.pairwise_cons.1 hA).2 (List.pairwise_cons.1 hB).2 (fun d => by rw [apart_tail hA d, apart_tail hB d, hc d])]

/-- The merged spans of a list: of its sorting by first days, whatever the order of equals. -/
def mrg (l : List (Int × Int)) : List (Int × Int) := mrgF (l.mergeSort (fun a b => decide (a.1 ≤ b.1)))

theorem mrg_law {l : List (Int × Int)} (hv : ValSp l) : ValSp (mrg l) ∧ Apart (mrg l) ∧ ∀ d, Cov (mrg l) d ↔ Cov l d := by
  have hp := sorted_perm l
  obtain ⟨k1, k2, k3⟩ := mrgF_law (l := l.mergeSort (fun a b => decide (a.1 ≤ b.1))) (fun x hx => hv x (hp.1.mem_iff.1 hx)) hp.2
  exact ⟨k1, k2, fun d => (k3 d).trans (cov_perm hp.1 d)⟩

theorem mrgF_eq {l l' : List (Int × Int)} (hv : ValSp l) (hp : l'.Perm l) (hs : l'.Pairwise (fun a b => a.1 ≤ b.1)) : mrgF l' = mrg l := by
  obtain ⟨k1, k2, k3⟩ := mrgF_law (l := l') (fun x hx => hv x (hp.mem_iff.1 hx)) hs
  obtain ⟨g1, g2, g3⟩ := mrg_law hv
  exact apart_eq _ _ k1 g1 k2 g2 (fun d => ((k3 d).trans (cov_perm hp d)).trans (g3 d).symm)

end Go.Proofs.YtkcmkpljpmfiaaaDoor
