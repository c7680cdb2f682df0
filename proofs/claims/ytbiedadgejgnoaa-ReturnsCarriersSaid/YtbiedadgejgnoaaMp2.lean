/-
  Spans in plain words: merging, extending, the reference. No program in sight. (put together by wip/tools/assemble.py)
-/
import Derived.Test.YtbiedadgejgnoaaSpn
namespace Go.Proofs.Ytbiedadgejgnoaa



/-- One span more, the ones before being merged already (in reverse order: the last one first). -/
def mrgStep (s : Int × Int) : List (Int × Int) → List (Int × Int)
  | [] => [s]
  | p :: r => if s.1 ≤ p.2 + 1 then (p.1, max p.2 s.2) :: r else s :: p :: r

/-- The merged spans of a sorted list, last first. -/
def mrgRev : List (Int × Int) → List (Int × Int) → List (Int × Int)
  | acc, [] => acc
  | acc, s :: r => mrgRev (mrgStep s acc) r

def mrgF (l : List (Int × Int)) : List (Int × Int) := (mrgRev [] l).reverse

theorem mrgRev_append (acc l m : List (Int × Int)) : mrgRev acc (l ++ m) = mrgRev (mrgRev acc l) m := by
  induction l generalizing acc with
  | nil => rfl
  | cons s r ih => exact ih _

theorem mrg_take {l : List (Int × Int)} {k : Nat} (hk : k < l.length) : mrgRev [] (l.take (k + 1)) = mrgStep l[k] (mrgRev [] (l.take k)) := by
  rw [List.take_succ_eq_append_getElem hk, mrgRev_append]
  rfl

/-- All days of the list lie between -C and C. -/
def SpB (l : List (Int × Int)) : Prop := ∀ x ∈ l, -1000000000000 ≤ x.1 ∧ x.1 ≤ 1000000000000 ∧ -1000000000000 ≤ x.2 ∧ x.2 ≤ 1000000000000

theorem mrgStep_nil (s : Int × Int) : mrgStep s [] = [s] := rfl
theorem mrgStep_in {s p : Int × Int} {r : List (Int × Int)} (h : s.1 ≤ p.2 + 1) : mrgStep s (p :: r) = (p.1, max p.2 s.2) :: r := if_pos h
theorem mrgStep_out {s p : Int × Int} {r : List (Int × Int)} (h : ¬ s.1 ≤ p.2 + 1) : mrgStep s (p :: r) = s :: p :: r := if_neg h

theorem mrgStep_B {s : Int × Int} {acc : List (Int × Int)} (hs : -1000000000000 ≤ s.1 ∧ s.1 ≤ 1000000000000 ∧ -1000000000000 ≤ s.2 ∧ s.2 ≤ 1000000000000) (h : SpB acc) : SpB (mrgStep s acc) := by
  intro x hx
  cases acc with
  | nil => rw [mrgStep_nil] at hx; simp at hx; subst hx; exact hs
  | cons p r =>
    have hp := h p (by simp)
    by_cases hc : s.1 ≤ p.2 + 1
    · rw [mrgStep_in hc] at hx
      rcases List.mem_cons.1 hx with rfl | hx
      · simp only; omega
      · exact h x (by simp [hx])
    · rw [mrgStep_out hc] at hx
      rcases List.mem_cons.1 hx with rfl | hx
      · exact hs
      · exact h x hx




theorem perm_sorted_eq : ∀ (l l' : List (Int × Int)), l.Pairwise (fun a b => a.1 < b.1) → l'.Perm l → l'.Pairwise (fun a b => a.1 ≤ b.1) → l' = l
  | [], l', _, hp, _ => List.Perm.eq_nil hp
  | a :: t, [], _, hp, _ => by have := hp.length_eq; simp at this
  | a :: t, b :: t', hs, hp, hs' => by
    rw [List.pairwise_cons] at hs hs'
    have hab : b = a := by
      have hb : b ∈ a :: t := hp.mem_iff.1 (by simp)
      have ha : a ∈ b :: t' := hp.mem_iff.2 (by simp)
      rcases List.mem_cons.1 hb with h | h
      · exact h
      · rcases List.mem_cons.1 ha with h' | h'
        · exact h'.symm
        · have h1 := hs.1 b h
          have h2 := hs'.1 a h'
          omega
    subst hab
    rw [perm_sorted_eq t t' hs.2 (List.Perm.cons_inv hp) hs'.2]

theorem mrgRev_B : ∀ (l acc : List (Int × Int)), SpB l → SpB acc → SpB (mrgRev acc l)
  | [], acc, _, h => h
  | s :: r, acc, hl, h => mrgRev_B r _ (fun x hx => hl x (by simp [hx])) (mrgStep_B (hl s (by simp)) h)
theorem mrgRev_len : ∀ (l acc : List (Int × Int)), (mrgRev acc l).length ≤ acc.length + l.length
  | [], acc => Nat.le_refl _
  | s :: r, acc => by
    have h1 := mrgRev_len r (mrgStep s acc)
    have h2 : (mrgStep s acc).length ≤ acc.length + 1 := by
      cases acc with
      | nil => simp [mrgStep_nil]
      | cons p q =>
        by_cases hc : s.1 ≤ p.2 + 1
        · rw [mrgStep_in hc]; simp
        · rw [mrgStep_out hc]; simp
    show (mrgRev (mrgStep s acc) r).length ≤ _
    simp only [List.length_cons]
    omega
theorem mrgF_B {l : List (Int × Int)} (h : SpB l) : SpB (mrgF l) := fun x hx => mrgRev_B l [] h (fun y hy => by cases hy) x (by simpa [mrgF] using hx)
theorem mrgF_len (l : List (Int × Int)) : (mrgF l).length ≤ l.length := by
  have := mrgRev_len l []
  simpa [mrgF] using this

def dayOf (f u : Int) (s : Int × Int) : Int := max 0 (min s.2 u - max s.1 f + 1)
def daysF (f u : Int) (m : List (Int × Int)) : Int := m.foldl (fun n s => n + dayOf f u s) 0
theorem daysF_take {f u : Int} {m : List (Int × Int)} {k : Nat} (hk : k < m.length) : daysF f u (m.take (k + 1)) = daysF f u (m.take k) + dayOf f u m[k] := by
  unfold daysF
  rw [List.take_succ_eq_append_getElem hk, List.foldl_append]
  rfl

def extGo (st : Int) : Int → List (Int × Int) → Int
  | due, [] => due
  | due, s :: r => if due < s.1 then due else extGo st (due + max 0 (s.2 - max s.1 (st + 1) + 1)) r
def extF (st due : Int) (m : List (Int × Int)) : Int × Int :=
  if due ≤ st then (due, 0) else if 3652058 < extGo st due m then (0, 31) else (extGo st due m, 0)
theorem extGo_stop {st due : Int} {m : List (Int × Int)} {k : Nat} (hk : k < m.length) (h : due < m[k].1) : extGo st due (m.drop k) = due := by
  rw [List.drop_eq_getElem_cons hk]
  unfold extGo
  rw [if_pos h]
theorem extGo_step {st due : Int} {m : List (Int × Int)} {k : Nat} (hk : k < m.length) (h : ¬ due < m[k].1) : extGo st due (m.drop k) = extGo st (due + max 0 (m[k].2 - max m[k].1 (st + 1) + 1)) (m.drop (k + 1)) := by
  rw [List.drop_eq_getElem_cons hk]
  conv => lhs; unfold extGo
  rw [if_neg h]
theorem extGo_end {st due : Int} {m : List (Int × Int)} : extGo st due (m.drop m.length) = due := by
  rw [List.drop_length]; rfl

theorem sorted_perm (l : List (Int × Int)) : (l.mergeSort (fun a b => decide (a.1 ≤ b.1))).Perm l ∧ (l.mergeSort (fun a b => decide (a.1 ≤ b.1))).Pairwise (fun a b => a.1 ≤ b.1) := by
  refine ⟨List.mergeSort_perm _ _, ?_⟩
  have h := List.pairwise_mergeSort (le := fun a b : Int × Int => decide (a.1 ≤ b.1)) (fun a b c h1 h2 => by simp at *; omega) (fun a b => by simp; omega) l
  exact h.imp (fun h => by simpa using h)



def Cov (l : List (Int × Int)) (d : Int) : Prop := ∃ s ∈ l, s.1 ≤ d ∧ d ≤ s.2
def ValSp (l : List (Int × Int)) : Prop := ∀ s ∈ l, s.1 ≤ s.2
def Apart (l : List (Int × Int)) : Prop := l.Pairwise (fun a b => a.2 + 1 < b.1)
def ApR (l : List (Int × Int)) : Prop := l.Pairwise (fun a b => b.2 + 1 < a.1)

theorem cov_cons {s : Int × Int} {l : List (Int × Int)} {d : Int} : Cov (s :: l) d ↔ (s.1 ≤ d ∧ d ≤ s.2) ∨ Cov l d := by
  unfold Cov
  constructor
  · rintro ⟨t, ht, h⟩
    rcases List.mem_cons.1 ht with rfl | ht
    · exact .inl h
    · exact .inr ⟨t, ht, h⟩
  · rintro (h | ⟨t, ht, h⟩)
    · exact ⟨s, by simp, h⟩
    · exact ⟨t, by simp [ht], h⟩
theorem cov_perm {l m : List (Int × Int)} (h : l.Perm m) (d : Int) : Cov l d ↔ Cov m d := by
  unfold Cov
  constructor
  · rintro ⟨t, ht, h'⟩; exact ⟨t, h.mem_iff.1 ht, h'⟩
  · rintro ⟨t, ht, h'⟩; exact ⟨t, h.mem_iff.2 ht, h'⟩

theorem mrgStep_law {s : Int × Int} {acc : List (Int × Int)} (hv : ValSp acc) (ha : ApR acc) (hs : s.1 ≤ s.2) (hle : ∀ p ∈ acc, p.1 ≤ s.1) :
    ValSp (mrgStep s acc) ∧ ApR (mrgStep s acc) ∧ (∀ p ∈ mrgStep s acc, p.1 ≤ s.1) ∧ ∀ d, Cov (mrgStep s acc) d ↔ Cov (s :: acc) d := by
  cases acc with
  | nil =>
    rw [mrgStep_nil]
    exact ⟨fun x hx => by simp at hx; subst hx; exact hs, by unfold ApR; simp, fun p hp => by simp at hp; subst hp; omega, fun d => Iff.rfl⟩
  | cons p r =>
    have hp := hv p (by simp)
    have hps := hle p (by simp)
    unfold ApR at ha
    rw [List.pairwise_cons] at ha
    by_cases hc : s.1 ≤ p.2 + 1
    · rw [mrgStep_in hc]
      refine ⟨fun x hx => ?_, ?_, fun x hx => ?_, fun d => ?_⟩
      · rcases List.mem_cons.1 hx with rfl | hx
        · simp only; omega
        · exact hv x (by simp [hx])
      · unfold ApR
        rw [List.pairwise_cons]
        exact ⟨ha.1, ha.2⟩
      · rcases List.mem_cons.1 hx with rfl | hx
        · exact hps
        · exact hle x (by simp [hx])
      · rw [cov_cons, cov_cons, cov_cons]
        simp only
        constructor
        · rintro (h | h)
          · by_cases hd : d ≤ p.2
            · exact .inr (.inl ⟨h.1, hd⟩)
            · exact .inl (by omega)
          · exact .inr (.inr h)
        · rintro (h | h | h)
          · exact .inl (by omega)
          · exact .inl (by omega)
          · exact .inr h
    · rw [mrgStep_out hc]
      refine ⟨fun x hx => ?_, ?_, fun x hx => ?_, fun d => Iff.rfl⟩
      · rcases List.mem_cons.1 hx with rfl | hx
        · exact hs
        · exact hv x hx
      · unfold ApR
        rw [List.pairwise_cons, List.pairwise_cons]
        refine ⟨fun q hq => ?_, ha.1, ha.2⟩
        rcases List.mem_cons.1 hq with rfl | hq
        · omega
        · have h1 := ha.1 q hq
          omega
      · rcases List.mem_cons.1 hx with rfl | hx
        · omega
        · exact hle x hx

theorem mrgRev_law : ∀ (l acc : List (Int × Int)), ValSp l → l.Pairwise (fun a b => a.1 ≤ b.1) → ValSp acc → ApR acc → (∀ p ∈ acc, ∀ s ∈ l, p.1 ≤ s.1) →
    ValSp (mrgRev acc l) ∧ ApR (mrgRev acc l) ∧ ∀ d, Cov (mrgRev acc l) d ↔ (Cov acc d ∨ Cov l d)
  | [], acc, _, _, hv, ha, _ => ⟨hv, ha, fun d => ⟨fun h => .inl h, fun h => h.elim id (fun ⟨_, ht, _⟩ => by cases ht)⟩⟩
  | s :: r, acc, hl, hs, hv, ha, hle => by
    rw [List.pairwise_cons] at hs
    obtain ⟨g1, g2, g3, g4⟩ := mrgStep_law hv ha (hl s (by simp)) (fun p hp => hle p hp s (by simp))
    obtain ⟨k1, k2, k3⟩ := mrgRev_law r (mrgStep s acc) (fun x hx => hl x (by simp [hx])) hs.2 g1 g2 (fun p hp t ht => Int.le_trans (g3 p hp) (hs.1 t ht))
    refine ⟨k1, k2, fun d => ?_⟩
    show Cov (mrgRev (mrgStep s acc) r) d ↔ _
    rw [k3 d, g4 d, cov_cons, cov_cons]
    constructor
    · rintro ((h | h) | h)
      · exact .inr (.inl h)
      · exact .inl h
      · exact .inr (.inr h)
    · rintro (h | h | h)
      · exact .inl (.inr h)
      · exact .inl (.inl h)
      · exact .inr h

theorem mrgF_law {l : List (Int × Int)} (hv : ValSp l) (hs : l.Pairwise (fun a b => a.1 ≤ b.1)) : ValSp (mrgF l) ∧ Apart (mrgF l) ∧ ∀ d, Cov (mrgF l) d ↔ Cov l d := by
  obtain ⟨k1, k2, k3⟩ := mrgRev_law l [] hv hs (fun x hx => by cases hx) List.Pairwise.nil (fun p hp => by cases hp)
  refine ⟨fun x hx => k1 x (by simpa [mrgF] using hx), ?_, fun d => ?_⟩
  · unfold Apart mrgF
    rw [List.pairwise_reverse]
    exact k2
  · rw [← show Cov (mrgRev [] l) d ↔ Cov (mrgF l) d from cov_perm (by unfold mrgF; exact (List.reverse_perm _).symm) d, k3 d]
    exact ⟨fun h => h.elim (fun ⟨_, ht, _⟩ => by cases ht) id, .inr⟩

theorem apart_head {a : Int × Int} {A : List (Int × Int)} (h : Apart (a :: A)) (hv : ValSp (a :: A)) : ∀ s ∈ a :: A, a.1 ≤ s.1 := by
  intro s hs
  unfold Apart at h
  rw [List.pairwise_cons] at h
  rcases List.mem_cons.1 hs with rfl | hs
  · exact Int.le_refl _
  · have h1 := h.1 s hs
    have h2 := hv a (by simp)
    omega

theorem apart_tail {a : Int × Int} {A : List (Int × Int)} (h : Apart (a :: A)) (d : Int) : Cov A d ↔ (Cov (a :: A) d ∧ a.2 < d) := by
  unfold Apart at h
  rw [List.pairwise_cons] at h
  rw [cov_cons]
  constructor
  · intro hc
    obtain ⟨s, hs, h1, h2⟩ := hc
    have := h.1 s hs
    exact ⟨.inr ⟨s, hs, h1, h2⟩, by omega⟩
  · rintro ⟨h1 | h1, h2⟩
    · omega
    · exact h1

theorem apart_eq : ∀ (A B : List (Int × Int)), ValSp A → ValSp B → Apart A → Apart B → (∀ d, Cov A d ↔ Cov B d) → A = B
  | [], [], _, _, _, _, _ => rfl
  | [], b :: B, _, hvB, _, _, hc => by
    have h := (hc b.1).2 ⟨b, by simp, Int.le_refl _, hvB b (by simp)⟩
    obtain ⟨s, hs, -⟩ := h
    cases hs
  | a :: A, [], hvA, _, _, _, hc => by
    have h := (hc a.1).1 ⟨a, by simp, Int.le_refl _, hvA a (by simp)⟩
    obtain ⟨s, hs, -⟩ := h
    cases hs
  | a :: A, b :: B, hvA, hvB, hA, hB, hc => by
    have ha := hvA a (by simp)
    have hb := hvB b (by simp)
    have e1 : a.1 = b.1 := by
      obtain ⟨s, hs, h1, h2⟩ := (hc a.1).1 ⟨a, by simp, Int.le_refl _, ha⟩
      obtain ⟨t, ht, h3, h4⟩ := (hc b.1).2 ⟨b, by simp, Int.le_refl _, hb⟩
      have h5 := apart_head hB hvB s hs
      have h6 := apart_head hA hvA t ht
      omega
    have hend : ∀ {x : Int × Int} {X : List (Int × Int)}, Apart (x :: X) → ¬ Cov (x :: X) (x.2 + 1) := by
      intro x X hX
      rintro ⟨s, hs, h1, h2⟩
      unfold Apart at hX
      rw [List.pairwise_cons] at hX
      rcases List.mem_cons.1 hs with rfl | hs
      · omega
      · have := hX.1 s hs; omega
    have e2 : a.2 = b.2 := by
      rcases Int.lt_trichotomy a.2 b.2 with h | h | h
      · exact absurd ((hc (a.2 + 1)).2 ⟨b, by simp, by omega, by omega⟩) (hend hA)
      · exact h
      · exact absurd ((hc (b.2 + 1)).1 ⟨a, by simp, by omega, by omega⟩) (hend hB)
    have hab : a = b := Prod.ext e1 e2
    subst hab
    rw [apart_eq A B (fun x hx => hvA x (by simp [hx])) (fun x hx => hvB x (by simp [hx])) (List.pairwise_cons.1 hA).2 (List.pairwise_cons.1 hB).2 (fun d => by rw [apart_tail hA d, apart_tail hB d, hc d])]

/-- The merged spans of a list: of its sorting by first days, whatever the order of equals. -/
def mrg (l : List (Int × Int)) : List (Int × Int) := mrgF (l.mergeSort (fun a b => decide (a.1 ≤ b.1)))

theorem mrg_law {l : List (Int × Int)} (hv : ValSp l) : ValSp (mrg l) ∧ Apart (mrg l) ∧ ∀ d, Cov (mrg l) d ↔ Cov l d := by
  have hp := sorted_perm l
  obtain ⟨k1, k2, k3⟩ := mrgF_law (l := l.mergeSort (fun a b => decide (a.1 ≤ b.1))) (fun x hx => hv x (hp.1.mem_iff.1 hx)) hp.2
  exact ⟨k1, k2, fun d => (k3 d).trans (cov_perm hp.1 d)⟩

theorem mrgF_eq {l l' : List (Int × Int)} (hv : ValSp l) (hp : l'.Perm l) (hs : l'.Pairwise (fun a b => a.1 ≤ b.1)) : mrgF l' = mrg l := by
  obtain ⟨k1, k2, k3⟩ := mrgF_law (l := l') (fun x hx => hv x (hp.mem_iff.1 hx)) hs
  obtain ⟨g1, g2, g3⟩ := mrg_law hv
  exact apart_eq _ _ k1 g1 k2 g2 (fun d => ((k3 d).trans (cov_perm hp d)).trans (g3 d).symm)



def shiftS (k : Int) (l : List (Int × Int)) : List (Int × Int) := l.map (fun s => (s.1 + k, s.2 + k))

theorem shift_val {k : Int} {l : List (Int × Int)} (h : ValSp l) : ValSp (shiftS k l) := by
  intro s hs
  obtain ⟨t, ht, rfl⟩ := List.mem_map.1 hs
  have := h t ht
  simp only
  omega
theorem shift_cov {k : Int} {l : List (Int × Int)} (d : Int) : Cov (shiftS k l) d ↔ Cov l (d - k) := by
  unfold Cov
  constructor
  · rintro ⟨s, hs, h1, h2⟩
    obtain ⟨t, ht, rfl⟩ := List.mem_map.1 hs
    simp only at h1 h2
    exact ⟨t, ht, by omega, by omega⟩
  · rintro ⟨t, ht, h1, h2⟩
    exact ⟨(t.1 + k, t.2 + k), List.mem_map.2 ⟨t, ht, rfl⟩, by simp only; omega, by simp only; omega⟩
theorem shift_apart {k : Int} {l : List (Int × Int)} (h : Apart l) : Apart (shiftS k l) := by
  unfold Apart shiftS at *
  rw [List.pairwise_map]
  exact h.imp (fun h => by simp only; omega)

theorem mrg_shift {k : Int} {l : List (Int × Int)} (hv : ValSp l) : mrg (shiftS k l) = shiftS k (mrg l) := by
  obtain ⟨g1, g2, g3⟩ := mrg_law hv
  obtain ⟨k1, k2, k3⟩ := mrg_law (shift_val (k := k) hv)
  refine apart_eq _ _ k1 (shift_val g1) k2 (shift_apart g2) (fun d => ?_)
  rw [k3 d, shift_cov, shift_cov, g3]

theorem ext_shift {st k : Int} : ∀ (M : List (Int × Int)) (due : Int), extGo (st + k) (due + k) (shiftS k M) = extGo st due M + k
  | [], due => rfl
  | s :: r, due => by
    show extGo (st + k) (due + k) ((s.1 + k, s.2 + k) :: shiftS k r) = _
    unfold extGo
    by_cases h : due < s.1
    · rw [if_pos h, if_pos (by simp only; omega)]
    · rw [if_neg h, if_neg (by simp only; omega)]
      simp only
      rw [← ext_shift r (due + max 0 (s.2 - max s.1 (st + 1) + 1))]
      congr 1
      omega

/-- Lists that cover the same days merge alike. -/
theorem mrg_same {l l' : List (Int × Int)} (hv : ValSp l) (hv' : ValSp l') (h : ∀ d, Cov l d ↔ Cov l' d) : mrg l = mrg l' := by
  obtain ⟨g1, g2, g3⟩ := mrg_law hv
  obtain ⟨k1, k2, k3⟩ := mrg_law hv'
  exact apart_eq _ _ g1 k1 g2 k2 (fun d => (g3 d).trans ((h d).trans (k3 d).symm))
theorem mrg_mrg {l : List (Int × Int)} (hv : ValSp l) : mrg (mrg l) = mrg l := mrg_same (mrg_law hv).1 hv (mrg_law hv).2.2

theorem ext_from {st : Int} : ∀ (M : List (Int × Int)) (due : Int), due ≤ extGo st due M
  | [], due => Int.le_refl _
  | s :: r, due => by
    unfold extGo
    by_cases hlt : due < s.1
    · rw [if_pos hlt]; exact Int.le_refl _
    · rw [if_neg hlt]
      have := ext_from (st := st) r (due + max 0 (s.2 - max s.1 (st + 1) + 1))
      omega
/-- A later due does not make the result less (for TollingGrows). -/
theorem ext_mono {st : Int} : ∀ (M : List (Int × Int)) (due due' : Int), due ≤ due' → extGo st due M ≤ extGo st due' M
  | [], due, due', h => h
  | s :: r, due, due', h => by
    by_cases hlt : due < s.1
    · have e : extGo st due (s :: r) = due := by unfold extGo; rw [if_pos hlt]
      rw [e]
      exact Int.le_trans h (ext_from _ _)
    · unfold extGo
      rw [if_neg hlt, if_neg (by omega)]
      exact ext_mono r _ _ (by omega)



/-! ### end -/
def endStep (s : Int × Int) (x : Int) : Int := if s.1 ≤ x + 1 ∧ x < s.2 then s.2 else x
def endPass : List (Int × Int) → Int → Int
  | [], x => x
  | s :: r, x => endPass r (endStep s x)
def endIt (l : List (Int × Int)) : Nat → Int → Int
  | 0, x => x
  | n + 1, x => endPass l (endIt l n x)

theorem endPass_append (l m : List (Int × Int)) (x : Int) : endPass (l ++ m) x = endPass m (endPass l x) := by
  induction l generalizing x with
  | nil => rfl
  | cons s r ih => exact ih _
theorem endPass_take {l : List (Int × Int)} {k : Nat} (hk : k < l.length) (x : Int) : endPass (l.take (k + 1)) x = endStep l[k] (endPass (l.take k) x) := by
  rw [List.take_succ_eq_append_getElem hk, endPass_append]
  rfl

theorem endStep_law (s : Int × Int) (x : Int) : x ≤ endStep s x ∧ (s.1 ≤ x + 1 → s.2 ≤ endStep s x) ∧ (endStep s x = x ∨ (endStep s x = s.2 ∧ x < s.2 ∧ s.1 ≤ x + 1)) := by
  unfold endStep
  by_cases h : s.1 ≤ x + 1 ∧ x < s.2
  · rw [if_pos h]; omega
  · rw [if_neg h]; omega

theorem endPass_law : ∀ (l : List (Int × Int)) (x : Int), x ≤ endPass l x ∧ (∀ s ∈ l, s.1 ≤ x + 1 → s.2 ≤ endPass l x) ∧ (endPass l x = x ∨ ∃ s ∈ l, endPass l x = s.2 ∧ x < s.2) ∧ ∀ d, x < d → d ≤ endPass l x → Cov l d
  | [], x => ⟨Int.le_refl _, (fun s hs => by cases hs), .inl rfl, (fun d h1 h2 => by simp only [endPass] at h2; omega)⟩
  | s :: r, x => by
    obtain ⟨a1, a2, a3⟩ := endStep_law s x
    obtain ⟨b1, b2, b3, b4⟩ := endPass_law r (endStep s x)
    show x ≤ endPass r (endStep s x) ∧ (∀ t ∈ s :: r, t.1 ≤ x + 1 → t.2 ≤ endPass r (endStep s x)) ∧ (endPass r (endStep s x) = x ∨ ∃ t ∈ s :: r, endPass r (endStep s x) = t.2 ∧ x < t.2) ∧ ∀ d, x < d → d ≤ endPass r (endStep s x) → Cov (s :: r) d
    refine ⟨by omega, fun t ht h => ?_, ?_, fun d h1 h2 => ?_⟩
    · rcases List.mem_cons.1 ht with rfl | ht
      · have := a2 h; omega
      · exact b2 t ht (by omega)
    · rcases b3 with h | ⟨t, ht, h, h'⟩
      · rcases a3 with h3 | ⟨h3, h4, -⟩
        · exact .inl (by omega)
        · exact .inr ⟨s, by simp, by omega, h4⟩
      · exact .inr ⟨t, by simp [ht], h, by omega⟩
    · by_cases hd : d ≤ endStep s x
      · rcases a3 with h3 | ⟨h3, h4, h5⟩
        · omega
        · exact ⟨s, by simp, by omega, by omega⟩
      · obtain ⟨t, ht, h⟩ := b4 d (by omega) h2
        exact ⟨t, by simp [ht], h⟩

def cntU (l : List (Int × Int)) (x : Int) : Nat := l.countP (fun s => decide (x < s.2))
def cntF (l : List (Int × Int)) (x : Int) : Nat := l.countP (fun s => decide (x < s.1))

theorem cnt_lt {p q : Int × Int → Bool} : ∀ {l : List (Int × Int)}, (∀ s ∈ l, q s = true → p s = true) → (∃ s ∈ l, p s = true ∧ q s = false) → l.countP q < l.countP p
  | [], _, ⟨s, hs, _⟩ => by cases hs
  | a :: t, h, ⟨s, hs, h1, h2⟩ => by
    have hle : t.countP q ≤ t.countP p := List.countP_mono_left (fun x hx hq => h x (by simp [hx]) hq)
    rw [List.countP_cons, List.countP_cons]
    rcases List.mem_cons.1 hs with rfl | hs
    · rw [h1, h2]; simp; omega
    · have ih := cnt_lt (l := t) (fun x hx => h x (by simp [hx])) ⟨s, hs, h1, h2⟩
      have ha := h a (by simp)
      cases hq : q a
      · simp; omega
      · rw [ha hq]; simp; omega

def Closed (l : List (Int × Int)) (x : Int) : Prop := ∀ s ∈ l, s.1 ≤ x + 1 → s.2 ≤ x

theorem endIt_law (l : List (Int × Int)) (x : Int) : ∀ n, x ≤ endIt l n x ∧ (Closed l (endIt l n x) ∨ cntU l (endIt l n x) + n ≤ l.length) ∧ (∀ d, x < d → d ≤ endIt l n x → Cov l d) ∧ (endIt l n x = x ∨ ∃ s ∈ l, endIt l n x = s.2)
  | 0 => ⟨Int.le_refl _, .inr (List.countP_le_length), fun d h1 h2 => by simp only [endIt] at h2; omega, .inl rfl⟩
  | n + 1 => by
    obtain ⟨h1, h2, h3, h5⟩ := endIt_law l x n
    obtain ⟨b1, b2, b3, b4⟩ := endPass_law l (endIt l n x)
    show x ≤ endPass l (endIt l n x) ∧ (Closed l (endPass l (endIt l n x)) ∨ cntU l (endPass l (endIt l n x)) + (n + 1) ≤ l.length) ∧ (∀ d, x < d → d ≤ endPass l (endIt l n x) → Cov l d) ∧ (endPass l (endIt l n x) = x ∨ ∃ s ∈ l, endPass l (endIt l n x) = s.2)
    refine ⟨by omega, ?_, fun d g1 g2 => ?_, ?_⟩
    · rcases h2 with h | h
      · left
        have e : endPass l (endIt l n x) = endIt l n x := by
          rcases b3 with e | ⟨s, hs, e, e'⟩
          · exact e
          · obtain ⟨t, ht, t1, t2⟩ := b4 (endIt l n x + 1) (by omega) (by omega)
            have := h t ht (by omega)
            omega
        rw [e]
        exact h
      · rcases b3 with e | ⟨s, hs, e, e'⟩
        · left
          rw [e]
          intro s hs g
          have := b2 s hs g
          omega
        · right
          have : cntU l (endPass l (endIt l n x)) < cntU l (endIt l n x) := by
            refine cnt_lt (fun t _ h => ?_) ⟨s, hs, by simp; omega, by simp; omega⟩
            simp at h ⊢
            omega
          omega
    · by_cases hd : d ≤ endIt l n x
      · exact h3 d g1 hd
      · exact b4 d (by omega) g2
    · rcases b3 with e | ⟨s, hs, e, e'⟩
      · rw [e]; exact h5
      · exact .inr ⟨s, hs, e⟩

theorem end_law (l : List (Int × Int)) (x : Int) : x ≤ endIt l l.length x ∧ Closed l (endIt l l.length x) ∧ (∀ d, x < d → d ≤ endIt l l.length x → Cov l d) := by
  obtain ⟨h1, h2, h3, -⟩ := endIt_law l x l.length
  refine ⟨h1, ?_, h3⟩
  rcases h2 with h | h
  · exact h
  · intro s hs _
    have h0 : cntU l (endIt l l.length x) = 0 := by omega
    unfold cntU at h0
    rw [List.countP_eq_zero] at h0
    have := h0 s hs
    simp at this
    omega

/-! ### Merge -/
/-- What the reference has of the merged spans when it has come to the day fr. -/
structure Rm (l out : List (Int × Int)) (fr : Int) : Prop where
  val : ValSp out
  apart : Apart out
  le : ∀ s ∈ out, s.2 ≤ fr
  shut : ∀ s ∈ l, s.1 ≤ fr → s.2 ≤ fr
  gap : out ≠ [] → Closed l fr
  cov : ∀ d, Cov out d ↔ (Cov l d ∧ d ≤ fr)
  lo : -1 ≤ fr

theorem Rm.start {l : List (Int × Int)} (h : ∀ s ∈ l, 0 ≤ s.1) : Rm l [] (-1) :=
  ⟨(fun s hs => by cases hs), List.Pairwise.nil, (fun s hs => by cases hs), (fun s hs h1 => by have := h s hs; omega), fun h => absurd rfl h,
    fun d => ⟨(fun ⟨s, hs, _⟩ => by cases hs), (fun ⟨⟨s, hs, h1, h2⟩, h3⟩ => by have := h s hs; omega)⟩, Int.le_refl _⟩

theorem Rm.next {l out : List (Int × Int)} {fr : Int} (h : Rm l out fr) (hv : ValSp l) {b : Int × Int} (hb : b ∈ l) (hfr : fr < b.1) (hmin : ∀ s ∈ l, fr < s.1 → b.1 ≤ s.1) :
    Rm l (out ++ [(b.1, endIt l l.length b.1)]) (endIt l l.length b.1) ∧ cntF l (endIt l l.length b.1) < cntF l fr := by
  obtain ⟨e1, e2, e3⟩ := end_law l b.1
  generalize endIt l l.length b.1 = E at *
  have hlo := h.lo
  refine ⟨⟨fun s hs => ?_, ?_, fun s hs => ?_, fun s hs h1 => ?_, fun _ => e2, fun d => ⟨?_, ?_⟩, by omega⟩, ?_⟩
  · rcases List.mem_append.1 hs with hs | hs
    · exact h.val s hs
    · simp at hs; subst hs; exact e1
  · unfold Apart
    rw [List.pairwise_append]
    refine ⟨h.apart, by simp, fun s hs t ht => ?_⟩
    simp at ht
    subst ht
    simp only
    have h1 := h.le s hs
    have h2 := h.gap (List.ne_nil_of_mem hs) b hb
    have h3 := hv b hb
    omega
  · rcases List.mem_append.1 hs with hs | hs
    · have := h.le s hs; omega
    · simp at hs; subst hs; exact Int.le_refl _
  · exact e2 s hs (by omega)
  · rintro ⟨s, hs, h1, h2⟩
    rcases List.mem_append.1 hs with hs | hs
    · obtain ⟨g1, g2⟩ := (h.cov d).1 ⟨s, hs, h1, h2⟩
      exact ⟨g1, by omega⟩
    · simp at hs
      subst hs
      simp only at h1 h2
      refine ⟨?_, h2⟩
      by_cases hd : d = b.1
      · exact ⟨b, hb, by omega, by have := hv b hb; omega⟩
      · exact e3 d (by omega) h2
  · rintro ⟨⟨s, hs, h1, h2⟩, h3⟩
    by_cases hd : d ≤ fr
    · obtain ⟨t, ht, g⟩ := (h.cov d).2 ⟨⟨s, hs, h1, h2⟩, hd⟩
      exact ⟨t, by simp [ht], g⟩
    · have hs1 : fr < s.1 := by
        by_cases hc : s.1 ≤ fr
        · have := h.shut s hs hc; omega
        · omega
      have := hmin s hs hs1
      exact ⟨(b.1, E), by simp, by simp only; omega, by simp only; omega⟩
  · refine cnt_lt (fun t _ h => ?_) ⟨b, hb, by simp; omega, by simp; omega⟩
    simp at h ⊢
    omega

theorem Rm.done {l out : List (Int × Int)} {fr : Int} (h : Rm l out fr) (hv : ValSp l) (hall : ∀ s ∈ l, s.1 ≤ fr) : out = mrg l := by
  obtain ⟨g1, g2, g3⟩ := mrg_law hv
  refine apart_eq _ _ h.val g1 h.apart g2 (fun d => ?_)
  rw [h.cov d, g3 d]
  refine ⟨fun h => h.1, fun hc => ⟨hc, ?_⟩⟩
  obtain ⟨s, hs, h1, h2⟩ := hc
  have := h.shut s hs (hall s hs)
  omega

theorem cntF_zero {l : List (Int × Int)} {x : Int} (h : cntF l x = 0) : ∀ s ∈ l, s.1 ≤ x := by
  intro s hs
  unfold cntF at h
  rw [List.countP_eq_zero] at h
  have := h s hs
  simp at this
  exact this
theorem cntF_le (l : List (Int × Int)) (x : Int) : cntF l x ≤ l.length := List.countP_le_length

/-- Among the first k spans: none begins behind fr, or the one at b begins first of those. -/
def BestAt (l : List (Int × Int)) (fr : Int) (k : Nat) (best : Int) : Prop :=
  (best = -1 ∧ ∀ i (h : i < l.length), i < k → l[i].1 ≤ fr) ∨ (∃ (b : Nat) (hb : b < l.length), best = (b : Int) ∧ b < k ∧ fr < l[b].1 ∧ ∀ i (h : i < l.length), i < k → fr < l[i].1 → l[b].1 ≤ l[i].1)

theorem BestAt.zero (l : List (Int × Int)) (fr : Int) : BestAt l fr 0 (-1) := .inl ⟨rfl, fun _ _ h => absurd h (Nat.not_lt_zero _)⟩
theorem BestAt.skip {l : List (Int × Int)} {fr best : Int} {k : Nat} (h : BestAt l fr k best) (hk : k < l.length) (hs : l[k].1 ≤ fr) : BestAt l fr (k + 1) best := by
  rcases h with ⟨rfl, h⟩ | ⟨b, hb, rfl, h1, h2, h3⟩
  · refine .inl ⟨rfl, fun i hi hik => ?_⟩
    rcases Nat.lt_succ_iff_lt_or_eq.1 hik with h' | rfl
    · exact h i hi h'
    · exact hs
  · refine .inr ⟨b, hb, rfl, by omega, h2, fun i hi hik hf => ?_⟩
    rcases Nat.lt_succ_iff_lt_or_eq.1 hik with h' | rfl
    · exact h3 i hi h' hf
    · omega
theorem BestAt.first {l : List (Int × Int)} {fr : Int} {k : Nat} (h : BestAt l fr k (-1)) (hk : k < l.length) (hs : fr < l[k].1) : BestAt l fr (k + 1) (k : Int) := by
  rcases h with ⟨-, h⟩ | ⟨b, hb, h0, h1, h2, h3⟩
  · refine .inr ⟨k, hk, rfl, by omega, hs, fun i hi hik hf => ?_⟩
    rcases Nat.lt_succ_iff_lt_or_eq.1 hik with h' | rfl
    · have := h i hi h'; omega
    · exact Int.le_refl _
  · omega
theorem BestAt.better {l : List (Int × Int)} {fr : Int} {k b : Nat} (h : BestAt l fr k (b : Int)) (hk : k < l.length) (hb : b < l.length) (hs : fr < l[k].1) (hlt : l[k].1 < l[b].1) : BestAt l fr (k + 1) (k : Int) := by
  rcases h with ⟨h, -⟩ | ⟨b', hb', h0, h1, h2, h3⟩
  · omega
  · have e : b' = b := by omega
    subst e
    refine .inr ⟨k, hk, rfl, by omega, hs, fun i hi hik hf => ?_⟩
    rcases Nat.lt_succ_iff_lt_or_eq.1 hik with h' | rfl
    · have := h3 i hi h' hf; omega
    · exact Int.le_refl _
theorem BestAt.worse {l : List (Int × Int)} {fr : Int} {k b : Nat} (h : BestAt l fr k (b : Int)) (hk : k < l.length) (hb : b < l.length) (hlt : ¬ l[k].1 < l[b].1) : BestAt l fr (k + 1) (b : Int) := by
  rcases h with ⟨h, -⟩ | ⟨b', hb', h0, h1, h2, h3⟩
  · omega
  · have e : b' = b := by omega
    subst e
    refine .inr ⟨b', hb', rfl, by omega, h2, fun i hi hik hf => ?_⟩
    rcases Nat.lt_succ_iff_lt_or_eq.1 hik with h' | rfl
    · exact h3 i hi h' hf
    · omega
theorem BestAt.get {l : List (Int × Int)} {fr best : Int} {k : Nat} (h : BestAt l fr k best) : best = -1 ∨ ∃ b : Nat, best = (b : Int) ∧ b < k ∧ b < l.length := by
  rcases h with ⟨h, -⟩ | ⟨b, hb, rfl, h1, -⟩
  · exact .inl h
  · exact .inr ⟨b, rfl, h1, hb⟩

/-- One round of the reference's Merge. -/
def RmAt (l out : List (Int × Int)) (fr : Int) (i : Nat) : Prop := Rm l out fr ∧ ((∀ s ∈ l, s.1 ≤ fr) ∨ cntF l fr + i ≤ l.length) ∧ out.length ≤ i
theorem RmAt.start {l : List (Int × Int)} (h : ∀ s ∈ l, 0 ≤ s.1) : RmAt l [] (-1) 0 := ⟨Rm.start h, .inr (by have := cntF_le l (-1); omega), Nat.le_refl _⟩
theorem RmAt.none {l out : List (Int × Int)} {fr : Int} {i : Nat} (h : RmAt l out fr i) (hb : BestAt l fr l.length (-1)) : RmAt l out fr (i + 1) := by
  obtain ⟨h1, h2, h3⟩ := h
  refine ⟨h1, .inl ?_, by omega⟩
  rcases hb with ⟨-, h⟩ | ⟨b, hb, h0, -⟩
  · intro s hs
    obtain ⟨j, hj, rfl⟩ := List.mem_iff_getElem.1 hs
    exact h j hj hj
  · omega
theorem RmAt.some {l out : List (Int × Int)} {fr : Int} {i b : Nat} (h : RmAt l out fr i) (hv : ValSp l) (hl : b < l.length) (hb : BestAt l fr l.length (b : Int)) :
    RmAt l (out ++ [(l[b].1, endIt l l.length l[b].1)]) (endIt l l.length l[b].1) (i + 1) := by
  obtain ⟨h1, h2, h3⟩ := h
  rcases hb with ⟨h0, -⟩ | ⟨b', hb', h0, g1, g2, g3⟩
  · omega
  · have e : b' = b := by omega
    subst e
    obtain ⟨k1, k2⟩ := h1.next hv (List.getElem_mem hb') g2 (fun s hs hf => by
      obtain ⟨j, hj, rfl⟩ := List.mem_iff_getElem.1 hs
      exact g3 j hj hj hf)
    refine ⟨k1, .inr ?_, by simp; omega⟩
    rcases h2 with h2 | h2
    · have := h2 _ (List.getElem_mem hb'); omega
    · omega
theorem RmAt.done {l out : List (Int × Int)} {fr : Int} (h : RmAt l out fr l.length) (hv : ValSp l) : out = mrg l := by
  obtain ⟨h1, h2, -⟩ := h
  refine h1.done hv ?_
  rcases h2 with h2 | h2
  · exact h2
  · exact cntF_zero (by omega)

/-! ### Extend -/
/-- What the reference has of the extension: left days from d on are to be found, the spans from j on end behind d. -/
structure Rx (m : List (Int × Int)) (G d left : Int) (j : Nat) : Prop where
  go : G = extGo d (d + left) (m.drop j)
  before : ∀ i (h : i < m.length), i < j → m[i].2 ≤ d
  behind : ∀ i (h : i < m.length), j ≤ i → d < m[i].2
  pos : 0 < left

theorem Rx.last {m : List (Int × Int)} {G d left : Int} {j : Nat} (h : Rx m G d left j) (hj : m.length ≤ j) : G = d + left := by
  rw [h.go, List.drop_eq_nil_of_le hj]
  rfl
theorem Rx.stop {m : List (Int × Int)} {G d left : Int} {j : Nat} (h : Rx m G d left j) (hj : j < m.length) (hle : left ≤ max m[j].1 (d + 1) - 1 - d) : G = d + left := by
  have := h.pos
  rw [h.go, extGo_stop hj (by omega)]

theorem ext_same2 {a b : Int} : ∀ (M : List (Int × Int)) (D : Int), (∀ s ∈ M, a < s.1 ∧ b < s.1) → extGo a D M = extGo b D M
  | [], D, _ => rfl
  | s :: r, D, h => by
    have hs := h s (by simp)
    unfold extGo
    by_cases hlt : D < s.1
    · rw [if_pos hlt, if_pos hlt]
    · rw [if_neg hlt, if_neg hlt, Int.max_eq_left (by omega : a + 1 ≤ s.1), Int.max_eq_left (by omega : b + 1 ≤ s.1)]
      exact ext_same2 r _ (fun x hx => h x (by simp [hx]))

theorem apart_get {m : List (Int × Int)} (ha : Apart m) {i j : Nat} (hi : i < j) (hj : j < m.length) : m[i].2 + 1 < m[j].1 := by
  unfold Apart at ha
  rw [List.pairwise_iff_getElem] at ha
  exact ha i j (by omega) hj hi

theorem Rx.step {m : List (Int × Int)} {G d left : Int} {j : Nat} (h : Rx m G d left j) (hv : ValSp m) (ha : Apart m) (hj : j < m.length) (hlt : max m[j].1 (d + 1) - 1 - d < left) :
    Rx m G m[j].2 (left - (max m[j].1 (d + 1) - 1 - d)) (j + 1) := by
  have hb := h.behind j hj (Nat.le_refl _)
  have hvj := hv _ (List.getElem_mem hj)
  refine ⟨?_, fun i hi hij => ?_, fun i hi hij => ?_, by omega⟩
  · rw [h.go, extGo_step hj (by omega), ext_same2 (a := d) (b := m[j].2) _ _ (fun s hs => ?_)]
    · congr 1
      omega
    · obtain ⟨i, hi, rfl⟩ := List.mem_iff_getElem.1 hs
      rw [List.getElem_drop]
      have := apart_get ha (i := j) (j := j + 1 + i) (by omega) (by simp at hi; omega)
      omega
  · rcases Nat.lt_succ_iff_lt_or_eq.1 hij with h' | rfl
    · have := h.before i hi h'; omega
    · exact Int.le_refl _
  · have h1 := apart_get ha (i := j) (j := i) (by omega) hi
    have h2 := hv _ (List.getElem_mem hi)
    omega

/-- The first state: at the day st, with the days up to due left. -/
theorem Rx.start {m : List (Int × Int)} (hv : ValSp m) (ha : Apart m) {st due : Int} (hlt : st < due) : ∃ j, j ≤ m.length ∧ Rx m (extGo st due m) st (due - st) j := by
  have hex : ∀ n, n ≤ m.length → (∃ j, j ≤ n ∧ (∀ i (h : i < m.length), i < j → m[i].2 ≤ st) ∧ (∀ i (h : i < m.length), j ≤ i → i < n → st < m[i].2)) := by
    intro n
    induction n with
    | zero => exact fun _ => ⟨0, Nat.le_refl _, fun i _ h => absurd h (Nat.not_lt_zero _), fun i _ _ h => absurd h (Nat.not_lt_zero _)⟩
    | succ n ih =>
      intro hn
      obtain ⟨j, hj, h1, h2⟩ := ih (by omega)
      by_cases hs : st < m[n].2
      · refine ⟨j, by omega, h1, fun i hi hji hin => ?_⟩
        rcases Nat.lt_succ_iff_lt_or_eq.1 hin with h' | rfl
        · exact h2 i hi hji h'
        · exact hs
      · refine ⟨n + 1, Nat.le_refl _, fun i hi hin => ?_, fun _ hi h h' => by omega⟩
        rcases Nat.lt_succ_iff_lt_or_eq.1 hin with h' | rfl
        · have a1 := apart_get ha (i := i) (j := n) h' (by omega)
          have a2 := hv _ (List.getElem_mem (show n < m.length by omega))
          omega
        · omega
  obtain ⟨j, hj, h1, h2⟩ := hex m.length (Nat.le_refl _)
  refine ⟨j, hj, ?_, h1, fun i hi hji => h2 i hi hji hi, by omega⟩
  -- the spans before j are passed over
  have hskip : ∀ k, k ≤ j → extGo st due m = extGo st due (m.drop k) := by
    intro k
    induction k with
    | zero => intro _; rw [List.drop_zero]
    | succ k ih =>
      intro hk
      have hkl : k < m.length := by omega
      rw [ih (by omega), extGo_step hkl ?_]
      · have := h1 k hkl (by omega)
        congr 1
        omega
      · have := h1 k hkl (by omega)
        have := hv _ (List.getElem_mem hkl)
        omega
  rw [hskip j (Nat.le_refl _)]
  congr 1
  omega

/-- What the reference's search finds when it has gone down to the index i. -/
def rxNext (m : List (Int × Int)) (d : Int) (k : Nat) : Int := match m[k]? with
  | some s => max s.1 (d + 1)
  | none => 3652059
def rxUntil (m : List (Int × Int)) (k : Nat) : Int := match m[k]? with
  | some s => s.2
  | none => 3652059
theorem rxNext_at {m : List (Int × Int)} {d : Int} {k : Nat} (h : k < m.length) : rxNext m d k = max m[k].1 (d + 1) := by unfold rxNext; rw [List.getElem?_eq_getElem h]
theorem rxUntil_at {m : List (Int × Int)} {k : Nat} (h : k < m.length) : rxUntil m k = m[k].2 := by unfold rxUntil; rw [List.getElem?_eq_getElem h]
theorem rxNext_end {m : List (Int × Int)} {d : Int} {k : Nat} (h : m.length ≤ k) : rxNext m d k = 3652059 := by unfold rxNext; rw [List.getElem?_eq_none h]
theorem rxUntil_end {m : List (Int × Int)} {k : Nat} (h : m.length ≤ k) : rxUntil m k = 3652059 := by unfold rxUntil; rw [List.getElem?_eq_none h]

/-- What covers the merged spans covers the list: their days lie between the same bounds. -/
theorem mrg_in {l : List (Int × Int)} {lo hi : Int} (hv : ValSp l) (h : ∀ s ∈ l, lo ≤ s.1 ∧ s.2 ≤ hi) : ∀ s ∈ mrg l, lo ≤ s.1 ∧ s.2 ≤ hi := by
  intro s hs
  obtain ⟨g1, g2, g3⟩ := mrg_law hv
  have hsv := g1 s hs
  obtain ⟨t, ht, h1, h2⟩ := (g3 s.1).1 ⟨s, hs, Int.le_refl _, hsv⟩
  obtain ⟨u, hu, h3, h4⟩ := (g3 s.2).1 ⟨s, hs, hsv, Int.le_refl _⟩
  have := h t ht
  have := h u hu
  omega
theorem mrg_len (l : List (Int × Int)) : (mrg l).length ≤ l.length := by
  have := mrgF_len (l.mergeSort (fun a b => decide (a.1 ≤ b.1)))
  rw [List.length_mergeSort] at this
  exact this


end Go.Proofs.Ytbiedadgejgnoaa
