/-
  The excess counted by the names that occur (plain). No program in sight.
-/
import Derived.Test.YtbiedadgejgnoaaRtP
namespace Go.Proofs.Ytbiedadgejgnoaa

def sumB (f : Int → Int) : Nat → Int
  | 0 => 0
  | k + 1 => sumB f k + f (k : Int)
theorem sumB_zero {f : Int → Int} : ∀ {N : Nat}, (∀ c : Int, 0 ≤ c → c < N → f c = 0) → sumB f N = 0
  | 0, _ => rfl
  | N + 1, h => by
    show sumB f N + f (N : Int) = 0
    rw [sumB_zero (fun c h1 h2 => h c h1 (by omega)), h (N : Int) (by omega) (by omega)]
    rfl
theorem sumB_congr {f g : Int → Int} : ∀ {N : Nat}, (∀ c : Int, 0 ≤ c → c < N → f c = g c) → sumB f N = sumB g N
  | 0, _ => rfl
  | N + 1, h => by
    show sumB f N + f (N : Int) = sumB g N + g (N : Int)
    rw [sumB_congr (fun c h1 h2 => h c h1 (by omega)), h (N : Int) (by omega) (by omega)]
theorem sumB_point {f : Int → Int} {a : Int} (h0 : 0 ≤ a) : ∀ {N : Nat}, a < N → sumB f N = f a + sumB (fun c => if c = a then 0 else f c) N
  | 0, h => by omega
  | N + 1, h => by
    show sumB f N + f (N : Int) = f a + (sumB (fun c => if c = a then 0 else f c) N + (if (N : Int) = a then 0 else f (N : Int)))
    by_cases e : (N : Int) = a
    · rw [if_pos e, sumB_congr (f := f) (g := fun c => if c = a then 0 else f c) (N := N) (fun c h1 h2 => by show f c = if c = a then 0 else f c; rw [if_neg (by omega)]), e]
      omega
    · rw [if_neg e, sumB_point h0 (N := N) (by omega)]
      omega
theorem sumB_nodup {N : Nat} : ∀ (ns : List Int) (f : Int → Int), ns.Nodup → (∀ x ∈ ns, 0 ≤ x ∧ x < N) → (∀ c : Int, 0 ≤ c → c < N → c ∉ ns → f c = 0) → sumB f N = (ns.map f).sum
  | [], f, _, _, h => by rw [sumB_zero (fun c h1 h2 => h c h1 h2 (by simp))]; rfl
  | a :: t, f, hn, hr, h => by
    rw [List.nodup_cons] at hn
    have ha := hr a (by simp)
    have ih := sumB_nodup t (fun c => if c = a then 0 else f c) hn.2 (fun x hx => hr x (by simp [hx])) (fun c h1 h2 h3 => by
      by_cases e : c = a
      · exact if_pos e
      · show (if c = a then 0 else f c) = 0
        rw [if_neg e]
        exact h c h1 h2 (by simp [e, h3]))
    rw [sumB_point ha.1 (by omega), ih, List.map_cons, List.sum_cons]
    congr 1
    congr 1
    refine List.map_congr_left (fun x hx => ?_)
    show (if x = a then 0 else f x) = f x
    rw [if_neg (fun e => hn.1 (by rw [← e]; exact hx))]

def exAt (l : List Ret) (cs : List (Int × Int)) (d : Int) (x : Int) : Int := max 0 ((nW l x d : Int) - (cs.getD x.toNat (0, 0)).2)
theorem excTo_sumB (l : List Ret) (cs : List (Int × Int)) (d : Int) : ∀ k, excTo l cs d k = sumB (exAt l cs d) k
  | 0 => rfl
  | k + 1 => by
    show excTo l cs d k + exTerm l cs d k = sumB (exAt l cs d) k + exAt l cs d (k : Int)
    rw [excTo_sumB l cs d k]
    rfl

/-- What the two arrays hold after the first k returns: n names, each with its number of wrong returns. -/
structure NmAt (l : List Ret) (d : Int) (k n : Nat) (N Wr : List Int) : Prop where
  nodup : (N.take n).Nodup
  nlen : N.length = 32
  wlen : Wr.length = 32
  nk : n ≤ k
  cnt : ∀ i (h : i < N.length) (h' : i < Wr.length), i < n → Wr[i] = (nW (l.take k) N[i] d : Int)
  rest : ∀ i (h : i < Wr.length), n ≤ i → Wr[i] = 0
  out : ∀ c, c ∉ N.take n → nW (l.take k) c d = 0
  from_ : ∀ c ∈ N.take n, ∃ r ∈ l, r.car = c

theorem NmAt.start (l : List Ret) (d : Int) : NmAt l d 0 0 (List.replicate 32 0) (List.replicate 32 0) :=
  ⟨List.nodup_nil, by simp, by simp, Nat.le_refl _, fun i _ _ h => absurd h (Nat.not_lt_zero _), fun i h _ => by rw [List.getElem_replicate], fun c _ => rfl, fun c hc => by simp at hc⟩

theorem nW_take_not {l : List Ret} {k : Nat} (hk : k < l.length) {c d : Int} (h : ¬ (l[k].car = c ∧ wrongB l[k] d = true)) : nW (l.take (k + 1)) c d = nW (l.take k) c d := by
  rw [nW_take hk, if_neg h]; omega
theorem nW_take_yes {l : List Ret} {k : Nat} (hk : k < l.length) {c d : Int} (h1 : l[k].car = c) (h2 : wrongB l[k] d = true) : nW (l.take (k + 1)) c d = nW (l.take k) c d + 1 := by
  rw [nW_take hk, if_pos ⟨h1, h2⟩]

theorem NmAt.right {l : List Ret} {d : Int} {k n : Nat} {N Wr : List Int} (h : NmAt l d k n N Wr) (hk : k < l.length) (hw : wrongB l[k] d = false) : NmAt l d (k + 1) n N Wr := by
  have e : ∀ c, nW (l.take (k + 1)) c d = nW (l.take k) c d := fun c => nW_take_not hk (by rw [hw]; simp)
  exact ⟨h.nodup, h.nlen, h.wlen, Nat.le_succ_of_le h.nk, fun i h1 h2 h3 => by rw [e]; exact h.cnt i h1 h2 h3, h.rest, fun c hc => by rw [e]; exact h.out c hc, h.from_⟩
theorem take_get {N : List Int} {n i : Nat} (hi : i < n) (h : i < N.length) : N[i] ∈ N.take n := by
  rw [List.mem_take_iff_getElem]
  exact ⟨i, by omega, rfl⟩
theorem NmAt.old {l : List Ret} {d : Int} {k n : Nat} {N Wr : List Int} (h : NmAt l d k n N Wr) (hk : k < l.length) (hw : wrongB l[k] d = true) {i : Nat} (hi : i < n) (hiN : i < N.length) (hiW : i < Wr.length) (he : N[i] = l[k].car) : NmAt l d (k + 1) n N (Wr.set i (Wr[i] + 1)) := by
  refine ⟨h.nodup, h.nlen, by rw [List.length_set]; exact h.wlen, Nat.le_succ_of_le h.nk, fun j h1 h2 h3 => ?_, fun j hj hnj => ?_, fun c hc => ?_, h.from_⟩
  · rw [List.getElem_set]
    rw [List.length_set] at h2
    by_cases hij : i = j
    · subst hij
      rw [if_pos rfl, nW_take_yes hk he.symm hw, h.cnt i h1 h2 hi]
      omega
    · rw [if_neg hij, nW_take_not hk ?_]
      · exact h.cnt j h1 h2 h3
      · rintro ⟨g, -⟩
        have hnd := List.pairwise_iff_getElem.1 h.nodup
        rcases Nat.lt_or_ge i j with h4 | h4
        · exact hnd i j (by rw [List.length_take]; omega) (by rw [List.length_take]; omega) h4 (by rw [List.getElem_take, List.getElem_take, he, g])
        · exact hnd j i (by rw [List.length_take]; omega) (by rw [List.length_take]; omega) (by omega) (by rw [List.getElem_take, List.getElem_take, he, g])
  · rw [List.getElem_set]
    rw [List.length_set] at hj
    rw [if_neg (by omega)]
    exact h.rest j hj hnj
  · rw [nW_take_not hk ?_]
    · exact h.out c hc
    · rintro ⟨g, -⟩
      exact hc (by rw [← g, ← he]; exact take_get hi hiN)
theorem NmAt.new {l : List Ret} {d : Int} {k n : Nat} {N Wr : List Int} (h : NmAt l d k n N Wr) (hk : k < l.length) (hw : wrongB l[k] d = true) (hn32 : n < 32) (hno : l[k].car ∉ N.take n) (hnW : n < Wr.length) :
    NmAt l d (k + 1) (n + 1) (N.set n l[k].car) (Wr.set n (Wr[n] + 1)) := by
  have hN := h.nlen
  have htk : (N.set n l[k].car).take (n + 1) = N.take n ++ [l[k].car] := by
    rw [List.take_succ_eq_append_getElem (by rw [List.length_set]; omega), List.getElem_set_self, List.take_set_of_le (Nat.le_refl _)]
  refine ⟨?_, by rw [List.length_set]; exact h.nlen, by rw [List.length_set]; exact h.wlen, by have := h.nk; omega, fun j h1 h2 h3 => ?_, fun j hj hnj => ?_, fun c hc => ?_, fun c hc => ?_⟩
  · rw [htk, List.nodup_append]
    exact ⟨h.nodup, by simp, fun a ha b hb => by simp at hb; subst hb; intro e; exact hno (e ▸ ha)⟩
  · rw [List.length_set] at h1 h2
    rw [List.getElem_set, List.getElem_set]
    by_cases hj : n = j
    · subst hj
      rw [if_pos rfl, if_pos rfl, nW_take_yes hk rfl hw, h.rest n h2 (Nat.le_refl _), h.out _ hno]
      rfl
    · rw [if_neg hj, if_neg hj, nW_take_not hk ?_]
      · exact h.cnt j h1 h2 (by omega)
      · rintro ⟨g, -⟩
        exact hno (by rw [g]; exact take_get (by omega) h1)
  · rw [List.length_set] at hj
    rw [List.getElem_set, if_neg (by omega)]
    exact h.rest j hj (by omega)
  · rw [htk] at hc
    simp at hc
    rw [nW_take_not hk ?_]
    · exact h.out c hc.1
    · rintro ⟨g, -⟩
      exact hc.2 g.symm
  · rw [htk] at hc
    rcases List.mem_append.1 hc with hc | hc
    · exact h.from_ c hc
    · simp at hc
      exact ⟨l[k], List.getElem_mem hk, hc.symm⟩

/-- The sum over the names is the excess. -/
theorem NmAt.sum {l : List Ret} {cs : List (Int × Int)} {d : Int} {n : Nat} {N Wr : List Int} (h : NmAt l d l.length n N Wr) (hr : RetsOk cs.length l) (hc : CarOk cs) : ((N.take n).map (exAt l cs d)).sum = excF l cs d := by
  unfold excF
  rw [excTo_sumB]
  refine (sumB_nodup _ _ h.nodup (fun x hx => ?_) (fun c h1 h2 h3 => ?_)).symm
  · obtain ⟨r, hr', rfl⟩ := h.from_ x hx
    exact (hr r hr').1
  · have := h.out c h3
    rw [List.take_length] at this
    unfold exAt
    rw [this]
    have hlt : c.toNat < cs.length := by omega
    rw [List.getD_eq_getElem?_getD, List.getElem?_eq_getElem hlt]
    have := hc _ (List.getElem_mem hlt)
    simp only [Option.getD_some]
    omega

end Go.Proofs.Ytbiedadgejgnoaa
