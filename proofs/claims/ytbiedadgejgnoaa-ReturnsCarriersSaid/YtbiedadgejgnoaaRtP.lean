/-
  Returns in plain words: which are wrong, the excess of a possibility, what is allowed. No program in sight.
-/
import Derived.Test.YtbiedadgejgnoaaMp2
namespace Go.Proofs.Ytbiedadgejgnoaa

structure Ret where
  car : Int
  kind : Int
  fr : Int
  un : Int

def wrongB (r : Ret) (d : Int) : Bool :=
  if r.kind = 1 then decide (d < r.fr) || decide (r.un < d) else if r.kind = 2 then decide (0 ≤ d) && decide (d ≤ r.un) else decide (0 ≤ d)

/-- How many returns of the carrier c are wrong if the day is d. -/
def nW (l : List Ret) (c d : Int) : Nat := l.countP (fun r => decide (r.car = c) && wrongB r d)
def exTerm (l : List Ret) (cs : List (Int × Int)) (d : Int) (c : Nat) : Int := max 0 ((nW l c d : Int) - (cs.getD c (0, 0)).2)
def excTo (l : List Ret) (cs : List (Int × Int)) (d : Int) : Nat → Int
  | 0 => 0
  | k + 1 => excTo l cs d k + exTerm l cs d k
def excF (l : List Ret) (cs : List (Int × Int)) (d : Int) : Int := excTo l cs d cs.length

def RetOk (n : Nat) (r : Ret) : Prop :=
  (0 ≤ r.car ∧ r.car < n) ∧ ((r.kind = 1 ∧ 0 ≤ r.fr ∧ r.fr ≤ r.un ∧ r.un ≤ 3652058) ∨ (r.kind = 2 ∧ r.fr = 0 ∧ 0 ≤ r.un ∧ r.un ≤ 3652058) ∨ (r.kind = 3 ∧ r.fr = 0 ∧ r.un = 0))
def RetsOk (n : Nat) (l : List Ret) : Prop := ∀ r ∈ l, RetOk n r
def CarOk (cs : List (Int × Int)) : Prop := ∀ c ∈ cs, 0 ≤ c.2 ∧ c.2 ≤ 1000

/-- The numbers of a return lie between the ends of the range. -/
theorem RetOk.range {n : Nat} {r : Ret} (h : RetOk n r) : 0 ≤ r.fr ∧ r.fr ≤ 3652058 ∧ 0 ≤ r.un ∧ r.un ≤ 3652058 := by
  obtain ⟨-, h | h | h⟩ := h <;> omega

theorem wrongB_1 {r : Ret} {d : Int} (h : r.kind = 1) : wrongB r d = (decide (d < r.fr) || decide (r.un < d)) := by unfold wrongB; rw [if_pos h]
theorem wrongB_2 {r : Ret} {d : Int} (h : r.kind = 2) : wrongB r d = (decide (0 ≤ d) && decide (d ≤ r.un)) := by unfold wrongB; rw [if_neg (by omega), if_pos h]
theorem wrongB_3 {r : Ret} {d : Int} (h1 : r.kind ≠ 1) (h2 : r.kind ≠ 2) : wrongB r d = decide (0 ≤ d) := by unfold wrongB; rw [if_neg h1, if_neg h2]

theorem exTerm_pos (l : List Ret) (cs : List (Int × Int)) (d : Int) (c : Nat) : 0 ≤ exTerm l cs d c := by unfold exTerm; omega
theorem excTo_pos (l : List Ret) (cs : List (Int × Int)) (d : Int) : ∀ k, 0 ≤ excTo l cs d k
  | 0 => Int.le_refl _
  | k + 1 => by have := excTo_pos l cs d k; have := exTerm_pos l cs d k; show 0 ≤ excTo l cs d k + _; omega
theorem nW_le (l : List Ret) (c d : Int) : nW l c d ≤ l.length := List.countP_le_length
theorem nW_cons (r : Ret) (l : List Ret) (c d : Int) : nW (r :: l) c d = nW l c d + (if r.car = c ∧ wrongB r d = true then 1 else 0) := by
  unfold nW
  rw [List.countP_cons]
  by_cases h : r.car = c ∧ wrongB r d = true
  · rw [if_pos h]; simp [h.1, h.2]
  · rw [if_neg h]
    congr 1
    rw [if_neg (by simpa using h)]
theorem nW_append (l m : List Ret) (c d : Int) : nW (l ++ m) c d = nW l c d + nW m c d := List.countP_append
theorem nW_take {l : List Ret} {k : Nat} (hk : k < l.length) (c d : Int) : nW (l.take (k + 1)) c d = nW (l.take k) c d + (if l[k].car = c ∧ wrongB l[k] d = true then 1 else 0) := by
  rw [List.take_succ_eq_append_getElem hk, nW_append, nW_cons]
  simp [nW]
theorem nW_perm {l m : List Ret} (h : l.Perm m) (c d : Int) : nW l c d = nW m c d := h.countP_eq _

theorem excTo_congr {l m : List Ret} {cs : List (Int × Int)} {d e : Int} (h : ∀ c : Nat, nW l c d = nW m c e) : ∀ k, excTo l cs d k = excTo m cs e k
  | 0 => rfl
  | k + 1 => by
    show excTo l cs d k + exTerm l cs d k = excTo m cs e k + exTerm m cs e k
    rw [excTo_congr h k]
    unfold exTerm
    rw [h k]
theorem excF_perm {l m : List Ret} (h : l.Perm m) (cs : List (Int × Int)) (d : Int) : excF l cs d = excF m cs d := excTo_congr (fun c => nW_perm h c d) _
/-- What is wrong alike makes the same excess. -/
theorem excF_same {l : List Ret} {cs : List (Int × Int)} {d e : Int} (h : ∀ r ∈ l, wrongB r d = wrongB r e) : excF l cs d = excF l cs e := by
  refine excTo_congr (fun c => ?_) _
  unfold nW
  exact List.countP_congr (fun r hr => by rw [h r hr])

/-! ### what is allowed -/
def Poss (sent d : Int) : Prop := d = -1 ∨ (sent ≤ d ∧ d ≤ 3652058)

structure Alw (l : List Ret) (cs : List (Int × Int)) (sent : Int) (out : List (Int × Int)) (nv : Bool) : Prop where
  val : ValSp out
  apart : Apart out
  cov : ∀ d, Cov out d ↔ (sent ≤ d ∧ d ≤ 3652058 ∧ ∀ p, Poss sent p → excF l cs d ≤ excF l cs p)
  nev : nv = true ↔ ∀ p, Poss sent p → excF l cs (-1) ≤ excF l cs p

theorem Alw.eq {l m : List Ret} {cs : List (Int × Int)} {sent : Int} {out out' : List (Int × Int)} {nv nv' : Bool} (h : Alw l cs sent out nv) (h' : Alw m cs sent out' nv') (he : ∀ p, Poss sent p → excF l cs p = excF m cs p) : out = out' ∧ nv = nv' := by
  constructor
  · refine apart_eq _ _ h.val h'.val h.apart h'.apart (fun d => ?_)
    rw [h.cov, h'.cov]
    constructor
    · rintro ⟨h1, h2, h3⟩
      refine ⟨h1, h2, fun p hp => ?_⟩
      rw [← he d (.inr ⟨h1, h2⟩), ← he p hp]
      exact h3 p hp
    · rintro ⟨h1, h2, h3⟩
      refine ⟨h1, h2, fun p hp => ?_⟩
      rw [he d (.inr ⟨h1, h2⟩), he p hp]
      exact h3 p hp
  · rw [Bool.eq_iff_iff, h.nev, h'.nev]
    constructor
    · intro h3 p hp
      rw [← he _ (.inl rfl), ← he p hp]
      exact h3 p hp
    · intro h3 p hp
      rw [he _ (.inl rfl), he p hp]
      exact h3 p hp

/-- What is known of the days before t. -/
structure AwAt (l : List Ret) (cs : List (Int × Int)) (sent t least : Int) (nv : Bool) (out : List (Int × Int)) : Prop where
  val : ValSp out
  apart : Apart out
  lo : sent ≤ t
  before : ∀ s ∈ out, s.2 < t
  least_le : ∀ p, (p = -1 ∨ (sent ≤ p ∧ p < t)) → least ≤ excF l cs p
  hit : excF l cs (-1) = least ∨ ∃ d, sent ≤ d ∧ d < t ∧ excF l cs d = least
  nev : nv = true ↔ excF l cs (-1) = least
  cov : ∀ d, Cov out d ↔ (sent ≤ d ∧ d < t ∧ excF l cs d = least)

theorem AwAt.start (l : List Ret) (cs : List (Int × Int)) (sent : Int) : AwAt l cs sent sent (excF l cs (-1)) true [] :=
  ⟨(fun s hs => by cases hs), List.Pairwise.nil, Int.le_refl _, (fun s hs => by cases hs), (fun p hp => by
    rcases hp with rfl | ⟨h1, h2⟩
    · exact Int.le_refl _
    · omega), .inl rfl, by simp, fun d => ⟨(fun ⟨s, hs, _⟩ => by cases hs), (fun ⟨h1, h2, _⟩ => by omega)⟩⟩

/-- The next span of days does not count: its excess is greater. -/
theorem AwAt.skip {l : List Ret} {cs : List (Int × Int)} {sent t least u : Int} {nv : Bool} {out : List (Int × Int)} (h : AwAt l cs sent t least nv out) (htu : t ≤ u) (hc : ∀ d, t ≤ d → d ≤ u → excF l cs d = excF l cs t) (hgt : least < excF l cs t) :
    AwAt l cs sent (u + 1) least nv out := by
  have hlo := h.lo
  refine ⟨h.val, h.apart, by omega, fun s hs => by have := h.before s hs; omega, fun p hp => ?_, ?_, h.nev, fun d => ?_⟩
  · rcases hp with rfl | ⟨h1, h2⟩
    · exact h.least_le _ (.inl rfl)
    · by_cases hpt : p < t
      · exact h.least_le p (.inr ⟨h1, hpt⟩)
      · rw [hc p (by omega) (by omega)]; omega
  · rcases h.hit with h1 | ⟨d, h1, h2, h3⟩
    · exact .inl h1
    · exact .inr ⟨d, h1, by omega, h3⟩
  · rw [h.cov d]
    constructor
    · rintro ⟨h1, h2, h3⟩; exact ⟨h1, by omega, h3⟩
    · rintro ⟨h1, h2, h3⟩
      refine ⟨h1, ?_, h3⟩
      by_cases hd : d < t
      · exact hd
      · rw [hc d (by omega) (by omega)] at h3; omega
/-- The next span of days is better than all before. -/
theorem AwAt.better {l : List Ret} {cs : List (Int × Int)} {sent t least u : Int} {nv : Bool} {out : List (Int × Int)} (h : AwAt l cs sent t least nv out) (htu : t ≤ u) (hc : ∀ d, t ≤ d → d ≤ u → excF l cs d = excF l cs t) (hlt : excF l cs t < least) :
    AwAt l cs sent (u + 1) (excF l cs t) false [(t, u)] := by
  have hlo := h.lo
  refine ⟨(fun s hs => by simp at hs; subst hs; exact htu), by unfold Apart; simp, by omega, (fun s hs => by simp at hs; subst hs; simp only; omega), fun p hp => ?_, .inr ⟨t, by omega, by omega, rfl⟩, ?_, fun d => ?_⟩
  · rcases hp with rfl | ⟨h1, h2⟩
    · have := h.least_le _ (.inl rfl); omega
    · by_cases hpt : p < t
      · have := h.least_le p (.inr ⟨h1, hpt⟩); omega
      · rw [hc p (by omega) (by omega)]; exact Int.le_refl _
  · have := h.least_le _ (.inl rfl)
    constructor
    · intro h; cases h
    · intro h; omega
  · constructor
    · rintro ⟨s, hs, h1, h2⟩
      simp at hs
      subst hs
      simp only at h1 h2
      exact ⟨by omega, by omega, hc d h1 h2⟩
    · rintro ⟨h1, h2, h3⟩
      by_cases hd : d < t
      · have := h.least_le d (.inr ⟨h1, hd⟩); omega
      · exact ⟨(t, u), by simp, by simp only; omega, by simp only; omega⟩
/-- The next span of days is as good, and not next to the last one. -/
theorem AwAt.push {l : List Ret} {cs : List (Int × Int)} {sent t least u : Int} {nv : Bool} {out : List (Int × Int)} (h : AwAt l cs sent t least nv out) (htu : t ≤ u) (hc : ∀ d, t ≤ d → d ≤ u → excF l cs d = excF l cs t) (heq : excF l cs t = least) (hgap : ∀ s ∈ out, s.2 ≠ t - 1) :
    AwAt l cs sent (u + 1) least nv (out ++ [(t, u)]) := by
  have hlo := h.lo
  refine ⟨fun s hs => ?_, ?_, by omega, fun s hs => ?_, fun p hp => ?_, .inr ⟨t, by omega, by omega, heq⟩, h.nev, fun d => ?_⟩
  · rcases List.mem_append.1 hs with hs | hs
    · exact h.val s hs
    · simp at hs; subst hs; exact htu
  · unfold Apart
    rw [List.pairwise_append]
    refine ⟨h.apart, by simp, fun s hs x hx => ?_⟩
    simp at hx
    subst hx
    have h1 := h.before s hs
    have h2 := hgap s hs
    simp only
    omega
  · rcases List.mem_append.1 hs with hs | hs
    · have := h.before s hs; omega
    · simp at hs; subst hs; simp only; omega
  · rcases hp with rfl | ⟨h1, h2⟩
    · exact h.least_le _ (.inl rfl)
    · by_cases hpt : p < t
      · exact h.least_le p (.inr ⟨h1, hpt⟩)
      · rw [hc p (by omega) (by omega), heq]; exact Int.le_refl _
  · constructor
    · rintro ⟨s, hs, h1, h2⟩
      rcases List.mem_append.1 hs with hs | hs
      · obtain ⟨g1, g2, g3⟩ := (h.cov d).1 ⟨s, hs, h1, h2⟩
        exact ⟨g1, by omega, g3⟩
      · simp at hs
        subst hs
        simp only at h1 h2
        exact ⟨by omega, by omega, by rw [hc d h1 h2, heq]⟩
    · rintro ⟨h1, h2, h3⟩
      by_cases hd : d < t
      · obtain ⟨s, hs, g⟩ := (h.cov d).2 ⟨h1, hd, h3⟩
        exact ⟨s, by simp [hs], g⟩
      · exact ⟨(t, u), by simp, by simp only; omega, by simp only; omega⟩
/-- The next span of days is as good, and next to the last one. -/
theorem AwAt.join {l : List Ret} {cs : List (Int × Int)} {sent t least u : Int} {nv : Bool} {out : List (Int × Int)} {a b : Int} (h : AwAt l cs sent t least nv (out ++ [(a, b)])) (htu : t ≤ u) (hc : ∀ d, t ≤ d → d ≤ u → excF l cs d = excF l cs t) (heq : excF l cs t = least) (hb : b = t - 1) :
    AwAt l cs sent (u + 1) least nv (out ++ [(a, u)]) := by
  have hlo := h.lo
  have hab := h.val (a, b) (by simp)
  simp only at hab
  have hap := h.apart
  unfold Apart at hap
  rw [List.pairwise_append] at hap
  refine ⟨fun s hs => ?_, ?_, by omega, fun s hs => ?_, fun p hp => ?_, .inr ⟨t, by omega, by omega, heq⟩, h.nev, fun d => ?_⟩
  · rcases List.mem_append.1 hs with hs | hs
    · exact h.val s (by simp [hs])
    · simp at hs; subst hs; simp only; omega
  · unfold Apart
    rw [List.pairwise_append]
    refine ⟨hap.1, by simp, fun s hs x hx => ?_⟩
    simp at hx
    subst hx
    exact hap.2.2 s hs (a, b) (by simp)
  · rcases List.mem_append.1 hs with hs | hs
    · have := h.before s (by simp [hs]); omega
    · simp at hs; subst hs; simp only; omega
  · rcases hp with rfl | ⟨h1, h2⟩
    · exact h.least_le _ (.inl rfl)
    · by_cases hpt : p < t
      · exact h.least_le p (.inr ⟨h1, hpt⟩)
      · rw [hc p (by omega) (by omega), heq]; exact Int.le_refl _
  · constructor
    · rintro ⟨s, hs, h1, h2⟩
      rcases List.mem_append.1 hs with hs | hs
      · obtain ⟨g1, g2, g3⟩ := (h.cov d).1 ⟨s, by simp [hs], h1, h2⟩
        exact ⟨g1, by omega, g3⟩
      · simp at hs
        subst hs
        simp only at h1 h2
        by_cases hd : d ≤ b
        · obtain ⟨g1, g2, g3⟩ := (h.cov d).1 ⟨(a, b), by simp, h1, hd⟩
          exact ⟨g1, by omega, g3⟩
        · obtain ⟨g1, -, -⟩ := (h.cov a).1 ⟨(a, b), by simp, Int.le_refl _, hab⟩
          exact ⟨by omega, by omega, by rw [hc d (by omega) h2, heq]⟩
    · rintro ⟨h1, h2, h3⟩
      by_cases hd : d < t
      · obtain ⟨s, hs, g1, g2⟩ := (h.cov d).2 ⟨h1, hd, h3⟩
        rcases List.mem_append.1 hs with hs | hs
        · exact ⟨s, by simp [hs], g1, g2⟩
        · simp at hs
          subst hs
          simp only at g1 g2
          exact ⟨(a, u), by simp, g1, by simp only; omega⟩
      · exact ⟨(a, u), by simp, by simp only; omega, by simp only; omega⟩
theorem AwAt.done {l : List Ret} {cs : List (Int × Int)} {sent least : Int} {nv : Bool} {out : List (Int × Int)} (h : AwAt l cs sent 3652059 least nv out) : Alw l cs sent out nv := by
  have hp : ∀ p, Poss sent p ↔ (p = -1 ∨ (sent ≤ p ∧ p < 3652059)) := fun p => by unfold Poss; omega
  refine ⟨h.val, h.apart, fun d => ?_, ?_⟩
  · rw [h.cov d]
    constructor
    · rintro ⟨h1, h2, h3⟩
      exact ⟨h1, by omega, fun p g => by rw [h3]; exact h.least_le p ((hp p).1 g)⟩
    · rintro ⟨h1, h2, h3⟩
      refine ⟨h1, by omega, ?_⟩
      have g1 := h.least_le d (.inr ⟨h1, by omega⟩)
      rcases h.hit with g | ⟨x, x1, x2, g⟩
      · have := h3 (-1) (.inl rfl); omega
      · have := h3 x (.inr ⟨x1, by omega⟩); omega
  · rw [h.nev]
    constructor
    · intro g p gp
      rw [g]
      exact h.least_le p ((hp p).1 gp)
    · intro g
      have g1 := h.least_le (-1) (.inl rfl)
      rcases h.hit with g | ⟨x, x1, x2, g2⟩
      · exact g
      · have := g x (.inr ⟨x1, by omega⟩); omega

/-! ### the days at which the excess may change -/
structure SegPts (l : List Ret) (sent : Int) (ds : List Int) : Prop where
  up : ds.Pairwise (· < ·)
  mem : ∀ x, x ∈ ds ↔ (x = sent ∨ x = 3652059 ∨ (sent < x ∧ x ≤ 3652058 ∧ ∃ r ∈ l, x = r.fr ∨ x = r.un + 1))

theorem up_get {ds : List Int} (h : ds.Pairwise (· < ·)) {i j : Nat} (hij : i < j) (hj : j < ds.length) : ds[i] < ds[j] := by
  rw [List.pairwise_iff_getElem] at h
  exact h i j (by omega) hj hij

theorem SegPts.first {l : List Ret} {sent : Int} {ds : List Int} (h : SegPts l sent ds) (hs : sent ≤ 3652058) : ∃ hl : 0 < ds.length, ds[0] = sent := by
  have hm := (h.mem sent).2 (.inl rfl)
  obtain ⟨i, hi, he⟩ := List.mem_iff_getElem.1 hm
  refine ⟨by omega, ?_⟩
  rcases Nat.eq_zero_or_pos i with rfl | hp
  · exact he
  · have h1 := up_get h.up hp hi
    have h2 := (h.mem ds[0]).1 (List.getElem_mem _)
    omega
theorem SegPts.last {l : List Ret} {sent : Int} {ds : List Int} (h : SegPts l sent ds) (hs : sent ≤ 3652058) : ∃ hl : 1 < ds.length, ds[ds.length - 1] = 3652059 := by
  obtain ⟨h0, hf⟩ := h.first hs
  have hm := (h.mem 3652059).2 (.inr (.inl rfl))
  obtain ⟨i, hi, he⟩ := List.mem_iff_getElem.1 hm
  have hi1 : i = ds.length - 1 := by
    rcases Nat.lt_or_ge i (ds.length - 1) with hlt | hge
    · have h1 := up_get h.up hlt (by omega)
      have h2 := (h.mem ds[ds.length - 1]).1 (List.getElem_mem _)
      omega
    · omega
  subst hi1
  refine ⟨?_, he⟩
  rcases Nat.lt_or_ge 1 ds.length with hlt | hge
  · exact hlt
  · have : ds.length - 1 = 0 := by omega
    simp only [this] at he
    omega
theorem SegPts.same {l : List Ret} {cs : List (Int × Int)} {sent : Int} {ds : List Int} (h : SegPts l sent ds) (hs0 : 0 ≤ sent) (hs : sent ≤ 3652058) {i : Nat} (hi : i + 1 < ds.length) :
    ds[i] ≤ ds[i + 1] - 1 ∧ sent ≤ ds[i] ∧ ds[i + 1] ≤ 3652059 ∧ ∀ d, ds[i] ≤ d → d ≤ ds[i + 1] - 1 → excF l cs d = excF l cs ds[i] := by
  have hlt : ds[i] < ds[i + 1] := up_get h.up (Nat.lt_succ_self i) hi
  have b1 : sent ≤ ds[i] := by
    rcases (h.mem ds[i]).1 (List.getElem_mem _) with g | g | ⟨g, -, -⟩ <;> omega
  have b2 : ds[i + 1] ≤ 3652059 := by
    rcases (h.mem ds[i + 1]).1 (List.getElem_mem _) with g | g | ⟨-, g, -⟩ <;> omega
  refine ⟨by omega, by omega, by omega, fun d hd1 hd2 => excF_same (fun r hr => ?_)⟩
  have hno : ∀ x, ds[i] < x → x ≤ d → x ∉ ds := by
    intro x hx1 hx2 hm
    obtain ⟨j, hj, rfl⟩ := List.mem_iff_getElem.1 hm
    rcases Nat.lt_or_ge i j with hij | hij
    · rcases Nat.lt_or_ge (i + 1) j with h3 | h3
      · have := up_get h.up h3 hj; omega
      · have : j = i + 1 := by omega
        subst this
        omega
    · rcases Nat.lt_or_ge j i with h3 | h3
      · have := up_get h.up h3 (by omega); omega
      · have : j = i := by omega
        subst this
        omega
  have hf : ¬ (ds[i] < r.fr ∧ r.fr ≤ d) := fun ⟨g1, g2⟩ => hno _ g1 g2 ((h.mem _).2 (.inr (.inr ⟨by omega, by omega, r, hr, .inl rfl⟩)))
  have hu : ¬ (ds[i] < r.un + 1 ∧ r.un + 1 ≤ d) := fun ⟨g1, g2⟩ => hno _ g1 g2 ((h.mem _).2 (.inr (.inr ⟨by omega, by omega, r, hr, .inr rfl⟩)))
  have hd0 : 0 ≤ ds[i] := by omega
  by_cases k1 : r.kind = 1
  · rw [wrongB_1 k1, wrongB_1 k1, Bool.eq_iff_iff]
    simp
    omega
  · by_cases k2 : r.kind = 2
    · rw [wrongB_2 k2, wrongB_2 k2, Bool.eq_iff_iff]
      simp
      omega
    · rw [wrongB_3 k1 k2, wrongB_3 k1 k2, Bool.eq_iff_iff]
      simp
      omega

/-- The service: the last allowed day. -/
def servedF (out : List (Int × Int)) (nv : Bool) : Int × Bool :=
  if nv = true then (0, false) else match out.getLast? with
  | none => (0, false)
  | some s => (s.2, true)

end Go.Proofs.Ytbiedadgejgnoaa
