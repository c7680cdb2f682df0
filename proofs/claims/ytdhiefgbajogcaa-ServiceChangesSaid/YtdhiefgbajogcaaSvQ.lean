/-
  Laws of services in plain words. No program in sight.
-/
import Derived.Test.YtdhiefgbajogcaaSvP
namespace Go.Proofs.Ytdhiefgbajogcaa

/-! ### one attempt more -/
theorem candTo_prefix {f : At → Int × Bool} {cs : List (Int × Int)} {e p : Int} (l m : List At) : ∀ k, k ≤ l.length → candTo f cs e p (l ++ m) k = candTo f cs e p l k
  | 0, _ => rfl
  | k + 1, h => by
    have hk : k < l.length := by omega
    have ih := candTo_prefix (f := f) (cs := cs) (e := e) (p := p) l m k (by omega)
    rw [candTo_take hk, candTo_take (by rw [List.length_append]; omega), List.getElem_append_left hk, ih]
theorem ofF_more (f : At → Int × Bool) (cs : List (Int × Int)) (e p : Int) (l : List At) (a : At) : ofF f cs e p (l ++ [a]) = if matB e p a = true ∧ (f a).2 = true then bstep (ofF f cs e p l) (svOf f cs a l.length) else ofF f cs e p l := by
  unfold ofF
  rw [show (l ++ [a]).length = l.length + 1 from by simp, candTo_take (by simp), candTo_prefix l [a] l.length (Nat.le_refl _)]
  have e1 : (l ++ [a])[l.length]'(by simp) = a := by simp
  rw [e1]
  split
  · rw [bestL_snoc]
  · rfl
/-- A further attempt makes no day later. -/
theorem ofF_later {f : At → Int × Bool} {cs : List (Int × Int)} {e p : Int} {l : List At} {a : At} {s : Sv} (h : ofF f cs e p l = some s) : ∃ s', ofF f cs e p (l ++ [a]) = some s' ∧ s'.day ≤ s.day := by
  rw [ofF_more, h]
  split
  · by_cases hlt : (svOf f cs a l.length).day < s.day
    · exact ⟨_, if_pos hlt, by omega⟩
    · exact ⟨_, if_neg hlt, Int.le_refl _⟩
  · exact ⟨s, rfl, Int.le_refl _⟩
theorem ofF_without {f : At → Int × Bool} {cs : List (Int × Int)} {e p : Int} {l : List At} {a : At} (h : (f a).2 = false) : ofF f cs e p (l ++ [a]) = ofF f cs e p l := by
  rw [ofF_more, if_neg]
  rintro ⟨-, h'⟩
  rw [h] at h'
  cases h'

/-! ### the attempts of one party alone -/
def reIdx (idx : List Int) (s : Sv) : Sv := ⟨s.day, s.ext, idx.getD s.att.toNat 0⟩
structure SubAt (e p : Int) (l : List At) (k : Nat) (own : List At) (idx : List Int) : Prop where
  len : idx.length = own.length
  le : own.length ≤ k
  mat : ∀ a ∈ own, matB e p a = true
  sub : ∀ a ∈ own, a ∈ l
  lt : ∀ x ∈ idx, 0 ≤ x ∧ x < k
  cand : ∀ f cs, candTo f cs e p l k = (candTo f cs e p own own.length).map (reIdx idx)
theorem SubAt.start (e p : Int) (l : List At) : SubAt e p l 0 [] [] := ⟨rfl, Nat.le_refl _, (fun _ h => by cases h), (fun _ h => by cases h), (fun _ h => by cases h), fun _ _ => rfl⟩
theorem SubAt.skip {e p : Int} {l : List At} {k : Nat} {own : List At} {idx : List Int} (h : SubAt e p l k own idx) (hk : k < l.length) (hm : matB e p l[k] = false) : SubAt e p l (k + 1) own idx := by
  refine ⟨h.len, by have := h.le; omega, h.mat, h.sub, fun x hx => by have := h.lt x hx; omega, fun f cs => ?_⟩
  rw [candTo_take hk, if_neg (by rw [hm]; simp), h.cand]
theorem candTo_att (f : At → Int × Bool) (cs : List (Int × Int)) (e p : Int) (l : List At) : ∀ k, ∀ s ∈ candTo f cs e p l k, 0 ≤ s.att ∧ s.att < k
  | 0, s, h => by cases h
  | k + 1, s, h => by
    have ih := candTo_att f cs e p l k
    unfold candTo at h
    split at h
    · have := ih s h; omega
    · split at h
      · rcases List.mem_append.1 h with h1 | h1
        · have := ih s h1; omega
        · simp at h1
          subst h1
          have e1 : ∀ a, (svOf f cs a k).att = (k : Int) := fun _ => rfl
          rw [e1]
          omega
      · have := ih s h; omega
theorem SubAt.take {e p : Int} {l : List At} {k : Nat} {own : List At} {idx : List Int} (h : SubAt e p l k own idx) (hk : k < l.length) (hm : matB e p l[k] = true) : SubAt e p l (k + 1) (own ++ [l[k]]) (idx ++ [(k : Int)]) := by
  refine ⟨by simp [h.len], by have := h.le; simp; omega, fun a ha => ?_, fun a ha => ?_, fun x hx => ?_, fun f cs => ?_⟩
  · rcases List.mem_append.1 ha with h1 | h1
    · exact h.mat a h1
    · simp at h1; subst h1; exact hm
  · rcases List.mem_append.1 ha with h1 | h1
    · exact h.sub a h1
    · simp at h1; subst h1; exact List.getElem_mem _
  · rcases List.mem_append.1 hx with h1 | h1
    · have := h.lt x h1; omega
    · simp at h1; omega
  · have hmap : (candTo f cs e p own own.length).map (reIdx (idx ++ [(k : Int)])) = (candTo f cs e p own own.length).map (reIdx idx) := by
      refine List.map_congr_left (fun s hs => ?_)
      have := candTo_att f cs e p own own.length s hs
      unfold reIdx
      rw [List.getD_eq_getElem?_getD, List.getD_eq_getElem?_getD, List.getElem?_append_left (by rw [h.len]; omega)]
    rw [candTo_take hk, h.cand, show (own ++ [l[k]]).length = own.length + 1 from by simp, candTo_take (by simp), candTo_prefix own [l[k]] own.length (Nat.le_refl _)]
    have e1 : (own ++ [l[k]])[own.length]'(by simp) = l[k] := by simp
    rw [e1]
    by_cases hs : matB e p l[k] = true ∧ (f l[k]).2 = true
    · rw [if_pos hs, if_pos hs, List.map_append, hmap]
      congr 1
      simp only [List.map_cons, List.map_nil]
      congr 1
      unfold reIdx svOf
      simp only
      congr 1
      rw [show ((own.length : Int)).toNat = own.length from by omega, ← h.len]
      simp
    · rw [if_neg hs, if_neg hs, hmap]
theorem bestL_map {g : Sv → Sv} (hg : ∀ s, (g s).day = s.day) : ∀ (l : List Sv) (o : Option Sv), (l.map g).foldl bstep (o.map g) = (l.foldl bstep o).map g
  | [], o => rfl
  | y :: l, o => by
    have e : bstep (o.map g) (g y) = (bstep o y).map g := by
      cases o with
      | none => rfl
      | some x =>
        show (if (g y).day < (g x).day then some (g y) else some (g x)) = (if y.day < x.day then some y else some x).map g
        rw [hg, hg]
        split <;> rfl
    show (l.map g).foldl bstep (bstep (o.map g) (g y)) = (l.foldl bstep (bstep o y)).map g
    rw [e]
    exact bestL_map hg l _
theorem SubAt.same {e p : Int} {l own : List At} {idx : List Int} (h : SubAt e p l l.length own idx) (f : At → Int × Bool) (cs : List (Int × Int)) : ofF f cs e p l = (ofF f cs e p own).map (reIdx idx) := by
  unfold ofF bestL
  rw [h.cand f cs]
  exact bestL_map (g := reIdx idx) (fun _ => rfl) _ none
/-- The attempt that is found is one. -/
theorem ofF_in {f : At → Int × Bool} {cs : List (Int × Int)} {e p : Int} {l : List At} {s : Sv} (h : ofF f cs e p l = some s) : ∃ i, ∃ hi : i < l.length, s = svOf f cs l[i] i ∧ matB e p l[i] = true ∧ (f l[i]).2 = true := by
  obtain ⟨i, hi, -, h1, h2, h3, -⟩ := (ofAt f cs e p l l.length (Nat.le_refl _)).yes s h
  exact ⟨i, hi, h1, h2, h3⟩
theorem ofF_iff (f : At → Int × Bool) (cs : List (Int × Int)) (e p : Int) (l : List At) : (ofF f cs e p l).isSome = l.any (fun a => matB e p a && (f a).2) := by
  rw [Bool.eq_iff_iff, List.any_eq_true]
  constructor
  · intro h
    cases ho : ofF f cs e p l with
    | none => rw [ho] at h; cases h
    | some s =>
      obtain ⟨i, hi, -, h2, h3⟩ := ofF_in ho
      exact ⟨l[i], List.getElem_mem _, by rw [h2, h3]; rfl⟩
  · rintro ⟨a, ha, h⟩
    simp at h
    obtain ⟨i, hi, rfl⟩ := List.mem_iff_getElem.1 ha
    cases ho : ofF f cs e p l with
    | none =>
      have := (ofAt f cs e p l l.length (Nat.le_refl _)).no ho i hi hi h.1
      rw [h.2] at this
      cases this
    | some s => rfl

end Go.Proofs.Ytdhiefgbajogcaa
