/-
  The record of branches in plain functions: chains, events, checks, operations. No program in sight.
-/
import Derived.Test.YtgfnelpfoegdaaaBr
namespace Go.Proofs.Ytgfnelpfoegdaaa

/-- The number of events of a branch. -/
def sz (x : Br) : Int := x.at_ + x.own.length

/-- A branch and those from which it was forked. -/
def chain (l : List Br) (b : Nat) : List Nat :=
  match l[b]? with
  | none => []
  | some x => b :: if _h : 0 ≤ x.parent ∧ x.parent < b then chain l x.parent.toNat else []
termination_by b
decreasing_by omega

def depth (l : List Br) (b : Nat) : Nat := (chain l b).length - 1

def events (l : List Br) (b : Nat) : List Int :=
  match l[b]? with
  | none => []
  | some x => (if _h : 0 ≤ x.parent ∧ x.parent < b then (events l x.parent.toNat).take x.at_.toNat else []) ++ x.own
termination_by b
decreasing_by omega

/-- How many events the parent has. -/
def most (l : List Br) (x : Br) : Int :=
  if x.parent < 0 then 0 else match l[x.parent.toNat]? with | some y => sz y | none => 0

def popen (l : List Br) (x : Br) : Bool :=
  if x.parent < 0 then true else match l[x.parent.toNat]? with | some y => y.opn | none => false

/-- The error of branch b, if all before it are valid. -/
def wrongF (l : List Br) (b : Nat) (x : Br) : Int :=
  if x.parent < -1 ∨ (b : Int) ≤ x.parent ∨ ¬ (0 ≤ x.court ∧ x.court < 16) then 5
  else if x.at_ < 0 ∨ most l x < x.at_ then 5
  else if 8 < depth l b then 40
  else if 65536 < sz x then 2
  else if (x.opn = true ∧ popen l x = false) ∨ (x.opn = false ∧ x.parent < 0) then 11
  else 0

/-- The error of the first branch from b on that is not valid. -/
def checkFrom (l : List Br) : Nat → Nat → Int
  | 0, _ => 0
  | f + 1, b => match l[b]? with
    | none => 0
    | some x => if wrongF l b x = 0 then checkFrom l f (b + 1) else wrongF l b x

def checkF (l : List Br) : Int := if 256 < l.length then 2 else checkFrom l l.length 0

def rootF (l : List Br) (n : Int) : List Br × Int × Int :=
  if 0 ≤ n ∧ n < 16 then (if 256 ≤ l.length then ([], 0, 2) else (l ++ [⟨-1, n, 0, [], true⟩], l.length, 0)) else ([], 0, 5)

def addF (l : List Br) (b ev : Int) : List Br × Int :=
  if b < 0 then ([], 3) else match l[b.toNat]? with
    | none => ([], 3)
    | some x => if x.opn = false then ([], 41) else if 65536 ≤ sz x then ([], 2) else (l.set b.toNat { x with own := x.own ++ [ev] }, 0)

def forkF (l : List Br) (b n : Int) : List Br × Int × Int :=
  if b < 0 then ([], 0, 3) else match l[b.toNat]? with
    | none => ([], 0, 3)
    | some x =>
      if ¬ (0 ≤ n ∧ n < 16) then ([], 0, 5)
      else if x.opn = false then ([], 0, 41)
      else if 8 ≤ depth l b.toNat then ([], 0, 40)
      else if 256 ≤ l.length then ([], 0, 2)
      else (l ++ [⟨b, n, sz x, [], true⟩], l.length, 0)

def remandF (l : List Br) (b : Int) : List Br × Int :=
  if b < 0 then ([], 3) else match l[b.toNat]? with
    | none => ([], 3)
    | some x =>
      if x.opn = false then ([], 41)
      else if x.parent < 0 ∨ l.any (fun y => y.opn && y.parent == b) then ([], 11)
      else match l[x.parent.toNat]? with
        | none => ([], 11)
        | some p =>
          if 65536 < sz p + x.own.length then ([], 2)
          else ((l.set x.parent.toNat { p with own := p.own ++ x.own }).set b.toNat { x with opn := false }, 0)

/-! ### chains -/
def chainZ (l : List Br) (b : Int) : List Nat := if b < 0 then [] else chain l b.toNat

/-- Up to b, parents come first. -/
def DecPar (l : List Br) (b : Int) : Prop := ∀ (i : Nat) x, (i : Int) ≤ b → l[i]? = some x → -1 ≤ x.parent ∧ x.parent < i

theorem chain_none {l : List Br} {b : Nat} (h : l.length ≤ b) : chain l b = [] := by
  unfold chain; rw [List.getElem?_eq_none h]

theorem chain_some {l : List Br} {b : Nat} {x : Br} (h : l[b]? = some x) (hp : x.parent < b) : chain l b = b :: chainZ l x.parent := by
  unfold chain
  rw [h]
  simp only
  unfold chainZ
  by_cases h0 : x.parent < 0
  · rw [dif_neg (by omega), if_pos h0]
  · rw [dif_pos ⟨by omega, hp⟩, if_neg h0]

theorem chainZ_neg {l : List Br} {b : Int} (h : b < 0) : chainZ l b = [] := by unfold chainZ; rw [if_pos h]
theorem chainZ_nat (l : List Br) (b : Nat) : chainZ l b = chain l b := by unfold chainZ; rw [if_neg (by omega)]; simp
theorem chainZ_big {l : List Br} {b : Int} (h : (l.length : Int) ≤ b) : chainZ l b = [] := by
  unfold chainZ; rw [if_neg (by omega), chain_none (by omega)]

theorem DecPar.mono {l : List Br} {b c : Int} (h : DecPar l b) (hc : c ≤ b) : DecPar l c := fun i x hi hx => h i x (by omega) hx

/-! ### events -/
def eventsZ (l : List Br) (b : Int) : List Int := if b < 0 then [] else events l b.toNat

theorem eventsZ_neg {l : List Br} {b : Int} (h : b < 0) : eventsZ l b = [] := by unfold eventsZ; rw [if_pos h]
theorem eventsZ_nat (l : List Br) (b : Nat) : eventsZ l b = events l b := by unfold eventsZ; rw [if_neg (by omega)]; simp

theorem events_none {l : List Br} {b : Nat} (h : l.length ≤ b) : events l b = [] := by
  unfold events; rw [List.getElem?_eq_none h]

theorem events_some {l : List Br} {b : Nat} {x : Br} (h : l[b]? = some x) (hp : x.parent < b) : events l b = (eventsZ l x.parent).take x.at_.toNat ++ x.own := by
  conv => lhs; unfold events
  rw [h]
  simp only
  unfold eventsZ
  by_cases h0 : x.parent < 0
  · rw [dif_neg (by omega), if_pos h0]; simp
  · rw [dif_pos ⟨by omega, hp⟩, if_neg h0]

/-- Up to b, the branches hang together. -/
def StrB (l : List Br) (b : Int) : Prop := ∀ (i : Nat) x, (i : Int) ≤ b → l[i]? = some x → -1 ≤ x.parent ∧ x.parent < i ∧ 0 ≤ x.at_ ∧ x.at_ ≤ most l x

theorem StrB.dec {l : List Br} {b : Int} (h : StrB l b) : DecPar l b := fun i x hi hx => ⟨(h i x hi hx).1, (h i x hi hx).2.1⟩
theorem StrB.mono {l : List Br} {b c : Int} (h : StrB l b) (hc : c ≤ b) : StrB l c := fun i x hi hx => h i x (by omega) hx

theorem events_len {l : List Br} : ∀ (b : Nat) (x : Br), StrB l b → l[b]? = some x → ((events l b).length : Int) = sz x := by
  intro b
  induction b using Nat.strongRecOn with
  | ind b ih =>
    intro x hs hx
    obtain ⟨h1, h2, h3, h4⟩ := hs b x (Int.le_refl _) hx
    rw [events_some hx h2, List.length_append, List.length_take]
    unfold sz
    unfold most at h4
    by_cases h0 : x.parent < 0
    · rw [if_pos h0] at h4
      rw [eventsZ_neg h0]
      simp
      omega
    · rw [if_neg h0] at h4
      obtain ⟨p, hp⟩ := Int.eq_ofNat_of_zero_le (by omega : 0 ≤ x.parent)
      rw [hp] at h4 h2 ⊢
      rw [eventsZ_nat]
      simp only [Int.toNat_natCast] at h4
      have hpl : p < b := by omega
      cases hq : l[p]? with
      | none =>
        have h5 := List.getElem?_eq_none_iff.1 hq
        have h6 := (List.getElem?_eq_some_iff.1 hx).1
        omega
      | some y =>
        rw [hq] at h4
        have := ih p hpl y (hs.mono (by omega)) hq
        simp only at h4
        omega

theorem eventsZ_most {l : List Br} {b : Nat} {x : Br} (hs : StrB l b) (hx : l[b]? = some x) : ((eventsZ l x.parent).length : Int) = most l x := by
  obtain ⟨h1, h2, h3, h4⟩ := hs b x (Int.le_refl _) hx
  unfold most
  by_cases h0 : x.parent < 0
  · rw [if_pos h0, eventsZ_neg h0]; rfl
  · rw [if_neg h0]
    obtain ⟨p, hp⟩ := Int.eq_ofNat_of_zero_le (by omega : 0 ≤ x.parent)
    rw [hp] at h2 ⊢
    rw [eventsZ_nat]
    simp only [Int.toNat_natCast]
    have hpl : p < b := by omega
    cases hq : l[p]? with
    | none =>
      have h5 := List.getElem?_eq_none_iff.1 hq
      have h6 := (List.getElem?_eq_some_iff.1 hx).1
      omega
    | some y => exact events_len p y (hs.mono (by omega)) hq

/-- What stands behind an element of a chain. -/
theorem chain_split {l : List Br} : ∀ (pre : List Nat) (b : Int) (x : Nat) (post : List Nat), DecPar l b → pre ++ x :: post = chainZ l b →
    ∃ y, l[x]? = some y ∧ (x : Int) ≤ b ∧ y.parent < x ∧ post = chainZ l y.parent := by
  intro pre
  induction pre with
  | nil =>
    intro b x post hd h
    by_cases h0 : b < 0
    · rw [chainZ_neg h0] at h; cases h
    · obtain ⟨k, rfl⟩ := Int.eq_ofNat_of_zero_le (by omega : 0 ≤ b)
      rw [chainZ_nat] at h
      cases hk : l[k]? with
      | none => rw [chain_none (List.getElem?_eq_none_iff.1 hk)] at h; cases h
      | some y =>
        obtain ⟨h1, h2⟩ := hd k y (Int.le_refl _) hk
        rw [chain_some hk h2] at h
        simp only [List.nil_append, List.cons.injEq] at h
        obtain ⟨rfl, rfl⟩ := h
        exact ⟨y, hk, Int.le_refl _, h2, rfl⟩
  | cons p pre ih =>
    intro b x post hd h
    by_cases h0 : b < 0
    · rw [chainZ_neg h0] at h; cases h
    · obtain ⟨k, rfl⟩ := Int.eq_ofNat_of_zero_le (by omega : 0 ≤ b)
      rw [chainZ_nat] at h
      cases hk : l[k]? with
      | none => rw [chain_none (List.getElem?_eq_none_iff.1 hk)] at h; cases h
      | some y =>
        obtain ⟨h1, h2⟩ := hd k y (Int.le_refl _) hk
        rw [chain_some hk h2] at h
        simp only [List.cons_append, List.cons.injEq] at h
        obtain ⟨z, g1, g2, g3, g4⟩ := ih y.parent x post (hd.mono (by omega)) h.2
        exact ⟨z, g1, by omega, g3, g4⟩

/-- The state of the filling of the events of branch b: from place e on the row ys is right; before it the branches that are still to come say what is wanted. -/
def Fill (l : List Br) (b : Int) (pre : List Nat) (e : Nat) (ys : List Int) : Prop :=
  ys.length = (eventsZ l b).length ∧ e ≤ ys.length ∧ ys.drop e = (eventsZ l b).drop e ∧
  (∀ x post, pre ++ x :: post = chainZ l b → (eventsZ l b).take e = (events l x).take e ∧ e ≤ (events l x).length) ∧ (pre ≠ [] → pre = chainZ l b → e = 0)

theorem fill_start {l : List Br} {b : Nat} {x : Br} (hd : DecPar l b) (hx : l[b]? = some x) : Fill l b [] (events l b).length (List.replicate (events l b).length 0) := by
  refine ⟨by rw [eventsZ_nat]; simp, by simp, by rw [eventsZ_nat]; simp, ?_, fun h => absurd rfl h⟩
  intro y post h
  rw [chainZ_nat, chain_some hx (hd b x (Int.le_refl _) hx).2] at h
  simp only [List.nil_append, List.cons.injEq] at h
  rw [h.1, eventsZ_nat]
  exact ⟨rfl, Nat.le_refl _⟩

theorem fill_step {l : List Br} {b : Int} {pre : List Nat} {x : Nat} {post : List Nat} {e : Nat} {ys : List Int} (hs : StrB l b) (h : Fill l b pre e ys) (hp : pre ++ x :: post = chainZ l b) {y : Br} (hy : l[x]? = some y) :
    (y.at_ < e → e - y.at_.toNat ≤ y.own.length ∧ Fill l b (pre ++ [x]) y.at_.toNat (ys.take y.at_.toNat ++ y.own.take (e - y.at_.toNat) ++ ys.drop e)) ∧
    (¬ y.at_ < e → Fill l b (pre ++ [x]) e ys) := by
  obtain ⟨f1, f2, f3, f4, f5⟩ := h
  obtain ⟨g1, g2⟩ := f4 x post hp
  obtain ⟨z, hz, hxb, hpx, hpost⟩ := chain_split pre b x post hs.dec hp
  rw [hy] at hz
  cases hz
  have hsx : StrB l x := hs.mono hxb
  obtain ⟨k1, k2, k3, k4⟩ := hsx x y (Int.le_refl _) hy
  have hmost := eventsZ_most hsx hy
  have hlen := events_len x y hsx hy
  have hev := events_some hy k2
  have hat : y.at_.toNat ≤ (eventsZ l y.parent).length := by omega
  have hta : ((eventsZ l y.parent).take y.at_.toNat).length = y.at_.toNat := by rw [List.length_take]; omega
  have hnext : ∀ (e' : Nat), e' ≤ y.at_.toNat → (eventsZ l b).take e' = (events l x).take e' →
      (∀ x' post', (pre ++ [x]) ++ x' :: post' = chainZ l b → (eventsZ l b).take e' = (events l x').take e' ∧ e' ≤ (events l x').length) ∧ (pre ++ [x] ≠ [] → pre ++ [x] = chainZ l b → e' = 0) := by
    intro e' he' ht
    refine ⟨?_, ?_⟩
    · intro x' post' h'
      have h2 : x' :: post' = post := by
        rw [← hp, List.append_assoc] at h'
        have := List.append_cancel_left h'
        simpa using this
      rw [hpost] at h2
      have hpn : 0 ≤ y.parent := by
        rcases Int.lt_or_le y.parent 0 with hn | hn
        · rw [chainZ_neg hn] at h2; cases h2
        · exact hn
      obtain ⟨p, hpp⟩ := Int.eq_ofNat_of_zero_le hpn
      rw [hpp] at h2 hat hev k2
      rw [eventsZ_nat] at hat hev
      cases hq : l[p]? with
      | none => rw [chainZ_nat, chain_none (List.getElem?_eq_none_iff.1 hq)] at h2; cases h2
      | some q =>
        have hqd := hs.dec p q (by omega) hq
        rw [chainZ_nat, chain_some hq hqd.2] at h2
        simp only [List.cons.injEq] at h2
        obtain ⟨rfl, _⟩ := h2
        refine ⟨?_, by omega⟩
        rw [ht, hev, List.take_append_of_le_length (by rw [List.length_take]; omega), List.take_take]
        congr 1
        omega
    · intro _ h'
      have h2 : post = [] := by
        rw [← hp] at h'
        have := List.append_cancel_left h'
        simpa using this.symm
      rw [hpost] at h2
      rcases Int.lt_or_le y.parent 0 with hn | hn
      · rw [eventsZ_neg hn] at hat; simp at hat; omega
      · obtain ⟨p, hpp⟩ := Int.eq_ofNat_of_zero_le hn
        rw [hpp] at h2 k2
        cases hq : l[p]? with
        | none =>
          have h5 := List.getElem?_eq_none_iff.1 hq
          have h6 := (List.getElem?_eq_some_iff.1 hy).1
          omega
        | some q =>
          have hqd := hs.dec p q (by omega) hq
          rw [chainZ_nat, chain_some hq hqd.2] at h2
          cases h2
  constructor
  · intro hlt
    have hle : y.at_.toNat ≤ e := by omega
    have hol : e - y.at_.toNat ≤ y.own.length := by
      unfold sz at hlen
      omega
    have hte : (eventsZ l b).take e = (eventsZ l y.parent).take y.at_.toNat ++ y.own.take (e - y.at_.toNat) := by
      rw [g1, hev, List.take_append, hta, List.take_of_length_le (by omega)]
    have hd2 : (eventsZ l b).drop y.at_.toNat = y.own.take (e - y.at_.toNat) ++ (eventsZ l b).drop e := by
      have h1 : eventsZ l b = (eventsZ l b).take e ++ (eventsZ l b).drop e := (List.take_append_drop _ _).symm
      conv => lhs; rw [h1, hte]
      rw [List.append_assoc, List.drop_append_of_le_length (by omega), List.drop_eq_nil_of_le (by omega), List.nil_append]
    have htl : (ys.take y.at_.toNat).length = y.at_.toNat := by rw [List.length_take]; omega
    obtain ⟨n1, n2⟩ := hnext y.at_.toNat (Nat.le_refl _) (by
      have := congrArg (List.take y.at_.toNat) g1
      rwa [List.take_take, List.take_take, Nat.min_eq_left hle] at this)
    refine ⟨hol, ?_, ?_, ?_, n1, n2⟩
    · simp only [List.length_append, htl, List.length_take, List.length_drop]
      omega
    · simp only [List.length_append, htl, List.length_take, List.length_drop]
      omega
    · rw [hd2, List.append_assoc, List.drop_append_of_le_length (by omega), List.drop_eq_nil_of_le (by omega), List.nil_append, f3]
  · intro hge
    obtain ⟨n1, n2⟩ := hnext e (by omega) g1
    exact ⟨f1, f2, f3, n1, n2⟩

theorem fill_end {l : List Br} {b : Int} {e : Nat} {ys : List Int} (h : Fill l b (chainZ l b) e ys) (hne : chainZ l b ≠ []) : ys = eventsZ l b := by
  obtain ⟨_, _, f3, _, f5⟩ := h
  rw [f5 hne rfl] at f3
  simpa using f3

/-! ### valid records -/
structure OkBr (l : List Br) (i : Nat) (x : Br) : Prop where
  p1 : -1 ≤ x.parent
  p2 : x.parent < i
  c : 0 ≤ x.court ∧ x.court < 16
  a1 : 0 ≤ x.at_
  a2 : x.at_ ≤ most l x
  d : depth l i ≤ 8
  s : sz x ≤ 65536
  o1 : x.opn = true → popen l x = true
  o2 : x.opn = false → 0 ≤ x.parent

theorem wrongF_ok {l : List Br} {i : Nat} {x : Br} : wrongF l i x = 0 ↔ OkBr l i x := by
  unfold wrongF
  constructor
  · intro h
    by_cases h1 : x.parent < -1 ∨ (i : Int) ≤ x.parent ∨ ¬ (0 ≤ x.court ∧ x.court < 16)
    · rw [if_pos h1] at h; omega
    · rw [if_neg h1] at h
      by_cases h2 : x.at_ < 0 ∨ most l x < x.at_
      · rw [if_pos h2] at h; omega
      · rw [if_neg h2] at h
        by_cases h3 : 8 < depth l i
        · rw [if_pos h3] at h; omega
        · rw [if_neg h3] at h
          by_cases h4 : 65536 < sz x
          · rw [if_pos h4] at h; omega
          · rw [if_neg h4] at h
            by_cases h5 : (x.opn = true ∧ popen l x = false) ∨ (x.opn = false ∧ x.parent < 0)
            · rw [if_pos h5] at h; omega
            · refine ⟨by omega, by omega, by omega, by omega, by omega, by omega, by omega, ?_, ?_⟩
              · intro ho
                cases hp : popen l x with
                | true => rfl
                | false => exact absurd (.inl ⟨ho, hp⟩) h5
              · intro ho
                rcases Int.lt_or_le x.parent 0 with hn | hn
                · exact absurd (.inr ⟨ho, hn⟩) h5
                · exact hn
  · rintro ⟨h1, h2, h3, h4, h5, h6, h7, h8, h9⟩
    rw [if_neg (by omega), if_neg (by omega), if_neg (by omega), if_neg (by omega), if_neg]
    rintro (⟨a, b⟩ | ⟨a, b⟩)
    · rw [h8 a] at b; cases b
    · have := h9 a; omega

/-- The first n branches are valid. -/
def OkTo (l : List Br) (n : Nat) : Prop := ∀ (i : Nat) x, i < n → l[i]? = some x → OkBr l i x

def Good (l : List Br) : Prop := l.length ≤ 256 ∧ OkTo l l.length

theorem OkTo.str {l : List Br} {n : Nat} (h : OkTo l n) {b : Int} (hb : b < n) : StrB l b := fun i x hi hx => by
  have := h i x (by omega) hx
  exact ⟨this.p1, this.p2, this.a1, this.a2⟩

theorem Good.str {l : List Br} (h : Good l) (b : Int) : StrB l b := fun i x _ hx => by
  have := h.2 i x (List.getElem?_eq_some_iff.1 hx).1 hx
  exact ⟨this.p1, this.p2, this.a1, this.a2⟩

theorem Good.ok {l : List Br} (h : Good l) {i : Nat} {x : Br} (hx : l[i]? = some x) : OkBr l i x := h.2 i x (List.getElem?_eq_some_iff.1 hx).1 hx

theorem OkBr.own {l : List Br} {i : Nat} {x : Br} (h : OkBr l i x) : x.own.length ≤ 65536 := by
  have h1 := h.s
  have h2 := h.a1
  unfold sz at h1
  omega

theorem chain_len (l : List Br) : ∀ b : Nat, (chain l b).length ≤ b + 1 := by
  intro b
  induction b using Nat.strongRecOn with
  | ind b ih =>
    unfold chain
    cases h : l[b]? with
    | none => simp
    | some x =>
      simp only
      by_cases hp : 0 ≤ x.parent ∧ x.parent < b
      · rw [dif_pos hp]
        have := ih x.parent.toNat (by omega)
        simp only [List.length_cons]
        omega
      · rw [dif_neg hp]; simp

theorem chainZ_len {l : List Br} (hl : l.length ≤ 1000) (b : Int) : (chainZ l b).length ≤ 1000 := by
  unfold chainZ
  by_cases h : b < 0
  · rw [if_pos h]; simp
  · rw [if_neg h]
    by_cases hb : b.toNat < l.length
    · have := chain_len l b.toNat; omega
    · rw [chain_none (by omega)]; simp

/-! ### what two lists begin with -/
def commonF : List Int → List Int → Nat
  | x :: xs, y :: ys => if x = y then commonF xs ys + 1 else 0
  | _, _ => 0

theorem commonF_at : ∀ (xs ys : List Int) (k : Nat) (h1 : k < xs.length) (h2 : k < ys.length), xs.take k = ys.take k → xs[k] ≠ ys[k] → commonF xs ys = k
  | [], ys, k, h1, _, _, _ => absurd h1 (Nat.not_lt_zero _)
  | x :: xs, [], k, _, h2, _, _ => absurd h2 (Nat.not_lt_zero _)
  | x :: xs, y :: ys, 0, _, _, _, hne => by unfold commonF; rw [if_neg (by simpa using hne)]
  | x :: xs, y :: ys, k + 1, h1, h2, ht, hne => by
    simp only [List.take_succ_cons, List.cons.injEq] at ht
    unfold commonF
    rw [if_pos ht.1, commonF_at xs ys k (by simpa using h1) (by simpa using h2) ht.2 (by simpa using hne)]

theorem commonF_end : ∀ (xs ys : List Int) (k : Nat), k = min xs.length ys.length → xs.take k = ys.take k → commonF xs ys = k
  | [], ys, k, h, _ => by simp at h; subst h; simp [commonF]
  | x :: xs, [], k, h, _ => by simp at h; subst h; simp [commonF]
  | x :: xs, y :: ys, 0, h, _ => by simp at h
  | x :: xs, y :: ys, k + 1, h, ht => by
    simp only [List.take_succ_cons, List.cons.injEq] at ht
    unfold commonF
    rw [if_pos ht.1, commonF_end xs ys k (by simp at h; omega) ht.2]

end Go.Proofs.Ytgfnelpfoegdaaa
