/-
  What the walks say of memory: slices of branches (five cells each, one of them a slice of ints). No program in sight.
-/
import Derived.Test.YtgfnelpfoegdaaaMem
namespace Go.Proofs.Ytgfnelpfoegdaaa
open Go.RowKit

structure Br where
  parent : Int
  court : Int
  at_ : Int
  own : List Int
  opn : Bool
deriving DecidableEq

/-- The cells of branch x whose own events are the slice u. -/
def brRow (x : Br) (u : Value) : List Value := [.int .i64 x.parent, .int .i64 x.court, .int .i64 x.at_, u, .bool x.opn]

def brRows : List Br → List Value → List (List Value)
  | x :: l, u :: us => brRow x u :: brRows l us
  | _, _ => []

def brCells (l : List Br) (us : List Value) : List Value := (brRows l us).flatten

theorem brRows_len : ∀ (l : List Br) (us : List Value), us.length = l.length → (brRows l us).length = l.length
  | [], us, _ => by simp [brRows]
  | x :: l, [], h => by simp at h
  | x :: l, u :: us, h => by simp [brRows, brRows_len l us (by simpa using h)]

theorem brRows_row (l : List Br) (us : List Value) : ∀ r ∈ brRows l us, r.length = 5 := by
  fun_induction brRows l us with
  | case1 x l u us ih => intro r hr; rcases List.mem_cons.1 hr with rfl | h; rfl; exact ih r h
  | case2 => intro r hr; cases hr

theorem brRows_get : ∀ (l : List Br) (us : List Value) (h : us.length = l.length) (i : Nat) (hi : i < l.length) (hr : i < (brRows l us).length), (brRows l us)[i] = brRow l[i] (us[i]'(by omega))
  | [], us, _, i, hi, _ => absurd hi (Nat.not_lt_zero _)
  | x :: l, [], h, _, _, _ => by simp at h
  | x :: l, u :: us, h, 0, _, _ => rfl
  | x :: l, u :: us, h, i + 1, hi, hr => by simpa [brRows] using brRows_get l us (by simpa using h) i (by simpa using hi) (by simpa [brRows] using hr)

theorem brRows_set : ∀ (l : List Br) (us : List Value) (i : Nat) (x : Br) (u : Value), (brRows l us).set i (brRow x u) = brRows (l.set i x) (us.set i u)
  | [], us, i, x, u => by simp [brRows]
  | y :: l, [], i, x, u => by simp [brRows]
  | y :: l, u' :: us, 0, x, u => rfl
  | y :: l, u' :: us, i + 1, x, u => by simp [brRows, brRows_set l us i x u]

theorem brRows_append : ∀ (l : List Br) (us : List Value) (_ : us.length = l.length) (x : Br) (u : Value), brRows (l ++ [x]) (us ++ [u]) = brRows l us ++ [brRow x u]
  | [], [], _, x, u => rfl
  | [], _ :: _, h, _, _ => by simp at h
  | y :: l, [], h, x, u => by simp at h
  | y :: l, u' :: us, h, x, u => by simp [brRows, brRows_append l us (by simpa using h) x u]

theorem brCells_len (l : List Br) (us : List Value) (h : us.length = l.length) : (brCells l us).length = l.length * 5 := by
  rw [brCells, flat_len 5 _ (brRows_row l us), brRows_len l us h]

theorem brCells_get (l : List Br) (us : List Value) (h : us.length = l.length) (i k : Nat) (hi : i < l.length) (hk : k < 5) : (brCells l us)[i * 5 + k]? = (brRow l[i] (us[i]'(by omega)))[k]? := by
  rw [brCells, flat_get 5 _ i k (by rw [brRows_len l us h]; exact hi) (brRows_row l us) hk, brRows_get l us h i hi]

/-- One cell of one branch is written. -/
theorem brCells_set (l : List Br) (us : List Value) (h : us.length = l.length) (i k : Nat) (hi : i < l.length) (hk : k < 5) (v : Value) (x : Br) (u : Value)
    (hx : (brRow l[i] (us[i]'(by omega))).set k v = brRow x u) : (brCells l us).set (i * 5 + k) v = brCells (l.set i x) (us.set i u) := by
  rw [brCells, flat_set 5 v _ i k (by rw [brRows_len l us h]; exact hi) (brRows_row l us) hk, brRows_get l us h i hi, hx, brRows_set]
  rfl

theorem brCells_append (l : List Br) (us : List Value) (h : us.length = l.length) (x : Br) (u : Value) : brCells (l ++ [x]) (us ++ [u]) = brCells l us ++ brRow x u := by
  rw [brCells, brRows_append l us h, List.flatten_append]
  simp [brCells]

theorem brCells_one (l : List Br) (us : List Value) (h1 : ∀ u ∈ us, u.oneCell' = true) : ∀ u ∈ brCells l us, u.oneCell' = true := by
  unfold brCells
  fun_induction brRows l us with
  | case1 x l u us ih =>
    intro c hc
    rw [List.flatten_cons] at hc
    rcases List.mem_append.1 hc with h | h
    · simp [brRow] at h
      rcases h with rfl | rfl | rfl | rfl | rfl
      · rfl
      · rfl
      · rfl
      · exact h1 c (by simp)
      · rfl
    · exact ih (fun u hu => h1 u (by simp [hu])) c h
  | case2 => intro c hc; cases hc

/-- v is a slice of branches that reads as l; us: their own events' slices. -/
def IsBrsU (w : World) (v : Value) (l : List Br) (us : List Value) : Prop :=
  us.length = l.length ∧ Rd w v 5 l.length (brCells l us) ∧ ∀ i (h : i < l.length) (h' : i < us.length), IsInts w us[i] l[i].own

def IsBrs (w : World) (v : Value) (l : List Br) : Prop := ∃ us, IsBrsU w v l us

theorem IsBrsU.below {w w' : World} {v : Value} {l : List Br} {us : List Value} (h : IsBrsU w v l us) (hb : Below w.heap.size w w') : IsBrsU w' v l us :=
  ⟨h.1, h.2.1.below hb, fun i hi hi' => (h.2.2 i hi hi').below hb⟩

theorem IsBrs.below {w w' : World} {v : Value} {l : List Br} (h : IsBrs w v l) (hb : Below w.heap.size w w') : IsBrs w' v l := by
  obtain ⟨us, h⟩ := h
  exact ⟨us, h.below hb⟩

theorem IsBrs.nil (w : World) (a : Option Addr) (cap : Nat) : IsBrs w (.slice a 0 cap) [] := ⟨[], rfl, Rd.nil w a 5 cap, fun _ h => absurd h (Nat.not_lt_zero _)⟩

theorem IsInts.one {w : World} {v : Value} {xs : List Int} (h : IsInts w v xs) : v.oneCell' = true := by
  obtain ⟨_, _, a, cap, rfl, _, _⟩ := h
  rfl

theorem IsBrsU.ones {w : World} {v : Value} {l : List Br} {us : List Value} (h : IsBrsU w v l us) : ∀ u ∈ us, u.oneCell' = true := by
  intro u hu
  obtain ⟨i, hi, rfl⟩ := List.getElem_of_mem hu
  exact (h.2.2 i (by rw [← h.1]; exact hi) hi).one

/-- What a walk reads. -/
theorem IsBrsU.open {w : World} {v : Value} {l : List Br} {us : List Value} (h : IsBrsU w v l us) :
    ∃ a cap, v = .slice a l.length cap ∧ l.length ≤ maxLen ∧ l.length ≤ cap ∧ ∀ i (hi : i < l.length), ∃ b off u, a = some ⟨b, off, none⟩ ∧ us[i]? = some u ∧ IsInts w u l[i].own ∧
      w.cell? ⟨b, off + i * 5, none⟩ = some (.int .i64 l[i].parent) ∧ w.cell? ⟨b, off + i * 5 + 1, none⟩ = some (.int .i64 l[i].court) ∧
      w.cell? ⟨b, off + i * 5 + 2, none⟩ = some (.int .i64 l[i].at_) ∧ w.cell? ⟨b, off + i * 5 + 3, none⟩ = some u ∧ w.cell? ⟨b, off + i * 5 + 4, none⟩ = some (.bool l[i].opn) := by
  obtain ⟨h0, ⟨h1, h2, a, cap, rfl, hn, hc⟩, h3⟩ := h
  refine ⟨a, cap, rfl, h2, hn, fun i hi => ?_⟩
  have c0 := hc (i * 5 + 0) _ (by rw [brCells_get l us h0 i 0 hi (by omega)]; rfl)
  have c1 := hc (i * 5 + 1) _ (by rw [brCells_get l us h0 i 1 hi (by omega)]; rfl)
  have c2 := hc (i * 5 + 2) _ (by rw [brCells_get l us h0 i 2 hi (by omega)]; rfl)
  have c3 := hc (i * 5 + 3) _ (by rw [brCells_get l us h0 i 3 hi (by omega)]; rfl)
  have c4 := hc (i * 5 + 4) _ (by rw [brCells_get l us h0 i 4 hi (by omega)]; rfl)
  obtain ⟨b, off, rfl, d0⟩ := c0
  obtain ⟨_, _, e, d1⟩ := c1
  cases e
  obtain ⟨_, _, e, d2⟩ := c2
  cases e
  obtain ⟨_, _, e, d3⟩ := c3
  cases e
  obtain ⟨_, _, e, d4⟩ := c4
  cases e
  have hi' : i < us.length := by omega
  exact ⟨b, off, us[i], rfl, List.getElem?_eq_getElem hi', h3 i hi hi', d0, d1, d2, d3, d4⟩

theorem IsBrs.open {w : World} {v : Value} {l : List Br} (h : IsBrs w v l) :
    ∃ a cap, v = .slice a l.length cap ∧ l.length ≤ maxLen ∧ l.length ≤ cap ∧ ∀ i (hi : i < l.length), ∃ b off u, a = some ⟨b, off, none⟩ ∧ IsInts w u l[i].own ∧
      w.cell? ⟨b, off + i * 5, none⟩ = some (.int .i64 l[i].parent) ∧ w.cell? ⟨b, off + i * 5 + 1, none⟩ = some (.int .i64 l[i].court) ∧
      w.cell? ⟨b, off + i * 5 + 2, none⟩ = some (.int .i64 l[i].at_) ∧ w.cell? ⟨b, off + i * 5 + 3, none⟩ = some u ∧ w.cell? ⟨b, off + i * 5 + 4, none⟩ = some (.bool l[i].opn) := by
  obtain ⟨us, h⟩ := h
  obtain ⟨a, cap, rfl, hl, hn, hc⟩ := h.open
  refine ⟨a, cap, rfl, hl, hn, fun i hi => ?_⟩
  obtain ⟨b, off, u, rfl, _, r⟩ := hc i hi
  exact ⟨b, off, u, rfl, r⟩

/-- v is a slice of branches that the call itself has made, from block B on: it reads as l; of the first k branches the own slices are the call's own, too; no two share a block. -/
structure OwnBrs (w : World) (B E EI : Nat) (v : Value) (l : List Br) (us : List Value) (k : Nat) : Prop where
  len : us.length = l.length
  row : w.ownsRow B E 5 v l.length (brCells l us)
  own : ∀ i (h : i < l.length) (h' : i < us.length), i < k → w.ownsRow B EI 1 us[i] l[i].own.length (ints l[i].own)
  two : ∀ i j (h : i < us.length) (h' : j < us.length), i < k → j < k → i ≠ j → us[i].ownBlock = none ∨ us[i].ownBlock ≠ us[j].ownBlock

theorem OwnBrs.reads {w : World} {B E EI : Nat} {v : Value} {l : List Br} {us : List Value} (h : OwnBrs w B E EI v l us l.length) : IsBrsU w v l us :=
  ⟨h.len, Rd.of_owns h.row, fun i hi hi' => IsInts.of_owns (h.own i hi hi' hi)⟩

theorem OwnBrs.below {w w' : World} {B E EI k : Nat} {v : Value} {l : List Br} {us : List Value} (h : OwnBrs w B E EI v l us k) (hb : Below w.heap.size w w') : OwnBrs w' B E EI v l us k :=
  ⟨h.len, owns_below h.row hb, fun i hi hi' hk => owns_below (h.own i hi hi' hk) hb, h.two⟩

/-- One branch gets another slice of its own, made later than all else (block C or beyond). -/
theorem OwnBrs.put {w : World} {B E EI k C : Nat} {g cap : Nat} {l : List Br} {us : List Value} {u : Value} (hE : EI ≠ E)
    (h : OwnBrs w B E EI (.slice (some ⟨g, 0, none⟩) l.length cap) l us k) (hC : g < C) (hlt : ∀ i (h : i < us.length), i < k → ∀ b, us[i].ownBlock = some b → b < C) (hBC : B ≤ C)
    (hk : k < l.length) (hu : w.ownsRow C EI 1 u l[k].own.length (ints l[k].own)) :
    OwnBrs (w.setCell ⟨g, k * 5 + 3, none⟩ u) B E EI (.slice (some ⟨g, 0, none⟩) l.length cap) l (us.set k u) (k + 1) := by
  have hst := h.row.stored (k * 5 + 3) u
  have hkus : k < us.length := by rw [h.len]; exact hk
  have hset : (brCells l us).set (k * 5 + 3) u = brCells l (us.set k u) := by
    have := brCells_set l us h.len k 3 hk (by omega) u l[k] u (by simp [brRow])
    rw [this, List.set_getElem_self]
  have hne : u.ownBlock = none ∨ u.ownBlock ≠ some g := by
    cases hb : u.ownBlock with
    | none => exact .inl rfl
    | some b => right; intro e; cases e; have := (hu.lt g hb).1; omega
  refine ⟨by simpa using h.len, ?_, ?_, ?_⟩
  · rw [← hset]; exact hst.1
  · intro i hi hi' hik
    by_cases e : i = k
    · subst e
      rw [List.getElem_set_self]
      exact owns_mono (hu.kept hst.2 hne) hBC
    · rw [List.getElem_set_ne (by omega)]
      have hi'' : i < us.length := by simpa using hi'
      exact (h.own i hi hi'' (by omega)).kept hst.2 (by simpa [Value.ownBlock] using owns_apart (h.own i hi hi'' (by omega)) h.row hE)
  · intro i j hi hj hik hjk hij
    have hi' : i < us.length := by simpa using hi
    have hj' : j < us.length := by simpa using hj
    by_cases e : i = k
    · subst e
      rw [List.getElem_set_self, List.getElem_set_ne (by omega)]
      cases hb : u.ownBlock with
      | none => exact .inl rfl
      | some b =>
        right
        intro e
        have h1 := (hu.lt b hb).1
        have h2 := hlt j hj' (by omega) b e.symm
        omega
    · by_cases e' : j = k
      · subst e'
        rw [List.getElem_set_self, List.getElem_set_ne (by omega)]
        cases hb : us[i].ownBlock with
        | none => exact .inl rfl
        | some b =>
          right
          intro e
          have h1 := (hu.lt b e.symm).1
          have h2 := hlt i hi' (by omega) b hb
          omega
      · rw [List.getElem_set_ne (by omega), List.getElem_set_ne (by omega)]
        exact h.two i j hi' hj' (by omega) (by omega) hij

theorem OwnBrs.lt {w : World} {B E EI k : Nat} {v : Value} {l : List Br} {us : List Value} (h : OwnBrs w B E EI v l us k) : ∀ i (_ : i < us.length), i < k → ∀ b, us[i].ownBlock = some b → b < w.heap.size :=
  fun i hi hk b hb => ((h.own i (by rw [← h.len]; exact hi) hi hk).lt b hb).2

/-- A branch is appended. -/
theorem OwnBrs.push {w w' : World} {B E EI C : Nat} {v v' : Value} {l : List Br} {us : List Value} {x : Br} {u : Value} (hE : EI ≠ E)
    (h : OwnBrs w B E EI v l us l.length) (hlt : ∀ i (h : i < us.length), ∀ b, us[i].ownBlock = some b → b < C) (hBC : B ≤ C) (hu : w.ownsRow C EI 1 u x.own.length (ints x.own))
    (hv : w'.ownsRow B E 5 v' (l.length + 1) (brCells l us ++ brRow x u)) (hg : w.grownBy w' v.ownBlock) : OwnBrs w' B E EI v' (l ++ [x]) (us ++ [u]) (l.length + 1) := by
  have hlen := h.len
  refine ⟨by simp [hlen], ?_, ?_, ?_⟩
  · rw [brCells_append l us hlen]
    simpa using hv
  · intro i hi hi' hik
    by_cases e : i < l.length
    · rw [List.getElem_append_left (by omega), List.getElem_append_left e]
      have := h.own i e (by omega) e
      exact this.kept hg (owns_apart this h.row hE)
    · obtain rfl : i = l.length := by simp at hi; omega
      have e1 : (us ++ [u])[l.length] = u := by rw [List.getElem_append_right (by omega)]; simp [hlen]
      have e2 : (l ++ [x])[l.length] = x := by simp
      rw [e1, e2]
      exact owns_mono (hu.kept hg (owns_apart hu h.row hE)) hBC
  · intro i j hi hj hik hjk hij
    simp at hi hj
    by_cases e : i < us.length
    · rw [List.getElem_append_left e]
      by_cases e' : j < us.length
      · rw [List.getElem_append_left e']
        exact h.two i j e e' (by omega) (by omega) hij
      · obtain rfl : j = us.length := by omega
        simp only [List.getElem_concat_length]
        cases hb : us[i].ownBlock with
        | none => exact .inl rfl
        | some b =>
          right
          intro e1
          have h1 := (hu.lt b e1.symm).1
          have h2 := hlt i e b hb
          omega
    · obtain rfl : i = us.length := by omega
      have e' : j < us.length := by omega
      rw [List.getElem_append_left e']
      simp only [List.getElem_concat_length]
      cases hb : u.ownBlock with
      | none => exact .inl rfl
      | some b =>
        right
        intro e1
        have h1 := (hu.lt b hb).1
        have h2 := hlt j e' b e1.symm
        omega

theorem OwnBrs.nil (w : World) (B E EI : Nat) : OwnBrs w B E EI (.slice none 0 0) [] [] 0 :=
  ⟨rfl, World.ownsRow_nil _ _ _ _, fun _ _ _ h => absurd h (Nat.not_lt_zero _), fun _ _ _ _ h => absurd h (Nat.not_lt_zero _)⟩

theorem brRow_one (x : Br) {u : Value} (h : u.oneCell' = true) : ∀ c ∈ brRow x u, c.oneCell' = true := by
  intro c hc
  simp [brRow] at hc
  rcases hc with rfl | rfl | rfl | rfl | rfl
  · rfl
  · rfl
  · rfl
  · exact h
  · rfl

/-- A branch without events is appended. -/
theorem OwnBrs.push_new {w w' : World} {B E EI : Nat} {v v' : Value} {l : List Br} {us : List Value} {p c a : Int} {o : Bool} (hE : EI ≠ E)
    (h : OwnBrs w B E EI v l us l.length) (hB : B ≤ w.heap.size)
    (hv : w'.ownsRow B E 5 v' (l.length + 1) (brCells l us ++ brRow ⟨p, c, a, [], o⟩ (.slice none 0 0))) (hg : w.grownBy w' v.ownBlock) : IsBrs w' v' (l ++ [⟨p, c, a, [], o⟩]) := by
  have := OwnBrs.push (C := w.heap.size) (x := ⟨p, c, a, [], o⟩) (u := .slice none 0 0) hE h (fun i hi b hb => h.lt i hi (by rw [← h.len]; exact hi) b hb) hB (World.ownsRow_nil _ _ _ _) hv hg
  rw [show l.length + 1 = (l ++ [(⟨p, c, a, [], o⟩ : Br)]).length from by simp] at this
  exact ⟨_, this.reads⟩

theorem OwnBrs.mono {w : World} {B B' E EI k : Nat} {v : Value} {l : List Br} {us : List Value} (h : OwnBrs w B E EI v l us k) (hB : B' ≤ B) : OwnBrs w B' E EI v l us k :=
  ⟨h.len, owns_mono h.row hB, fun i hi hi' hk => owns_mono (h.own i hi hi' hk) hB, h.two⟩

theorem OwnBrs.push_end {w W w' : World} {B E EI : Nat} {v v' : Value} {l : List Br} {us : List Value} {p c a : Int} {o : Bool} (hE : EI ≠ E)
    (h : OwnBrs W B E EI v l us l.length) (hbel : Below B w W) (hB : B ≤ W.heap.size)
    (hv : w'.ownsRow B E 5 v' (l.length + 1) (brCells l us ++ brRow ⟨p, c, a, [], o⟩ (.slice none 0 0))) (hg : W.grownBy w' v.ownBlock) : IsBrs w' v' (l ++ [⟨p, c, a, [], o⟩]) ∧ Below B w w' :=
  ⟨h.push_new hE hB hv hg, below_append hbel h.row hg hB⟩

/-- The row of branches is the call's own; the branches' own slices only read. -/
structure RowBrs (w : World) (B E : Nat) (v : Value) (l : List Br) (us : List Value) : Prop where
  len : us.length = l.length
  row : w.ownsRow B E 5 v l.length (brCells l us)
  own : ∀ i (h : i < l.length) (h' : i < us.length), IsInts w us[i] l[i].own
  apart : ∀ i (h : i < us.length), us[i].ownBlock = none ∨ us[i].ownBlock ≠ v.ownBlock

theorem RowBrs.reads {w : World} {B E : Nat} {v : Value} {l : List Br} {us : List Value} (h : RowBrs w B E v l us) : IsBrsU w v l us :=
  ⟨h.len, Rd.of_owns h.row, h.own⟩

theorem OwnBrs.rowBrs {w : World} {B E EI : Nat} {v : Value} {l : List Br} {us : List Value} (hE : EI ≠ E) (h : OwnBrs w B E EI v l us l.length) : RowBrs w B E v l us :=
  ⟨h.len, h.row, fun i hi hi' => IsInts.of_owns (h.own i hi hi' hi), fun i hi => owns_apart (h.own i (by rw [← h.len]; exact hi) hi (by rw [← h.len]; exact hi)) h.row hE⟩

/-- One branch's own slice was appended to, and is stored back. -/
theorem OwnBrs.upd {W W2 : World} {B E EI k g cap : Nat} {l : List Br} {us : List Value} {v' : Value} {own' : List Int} (hE : EI ≠ E)
    (h : OwnBrs W B E EI (.slice (some ⟨g, 0, none⟩) l.length cap) l us l.length) (hk : k < l.length) (hku : k < us.length)
    (hv : W2.ownsRow B EI 1 v' own'.length (ints own')) (hg : W.grownBy W2 us[k].ownBlock) :
    RowBrs (W2.setCell ⟨g, k * 5 + 3, none⟩ v') B E (.slice (some ⟨g, 0, none⟩) l.length cap) (l.set k { l[k] with own := own' }) (us.set k v') := by
  have hrow2 : W2.ownsRow B E 5 (.slice (some ⟨g, 0, none⟩) l.length cap) l.length (brCells l us) :=
    h.row.kept hg (by
      rcases owns_apart (h.own k hk hku hk) h.row hE with hn | hn
      · rw [hn]; right; simp [Value.ownBlock]
      · right; exact fun e => hn e.symm)
  have hst := hrow2.stored (k * 5 + 3) v'
  have hva := owns_apart hv hrow2 hE
  have hset : (brCells l us).set (k * 5 + 3) v' = brCells (l.set k { l[k] with own := own' }) (us.set k v') :=
    brCells_set l us h.len k 3 hk (by omega) v' _ v' (by simp [brRow])
  refine ⟨by simpa using h.len, ?_, ?_, ?_⟩
  · rw [← hset, List.length_set]
    exact hst.1
  · intro i hi hi'
    simp only [List.length_set] at hi hi'
    by_cases e : i = k
    · subst e
      rw [List.getElem_set_self, List.getElem_set_self]
      exact IsInts.of_owns (hv.kept hst.2 (by simpa [Value.ownBlock] using hva))
    · rw [List.getElem_set_ne (by omega), List.getElem_set_ne (by omega)]
      have h1 := h.own i hi hi' hi
      have h2 := h1.kept hg (h.two i k hi' hku hi hk e)
      exact IsInts.of_owns (h2.kept hst.2 (by simpa [Value.ownBlock] using owns_apart h2 hrow2 hE))
  · intro i hi
    simp only [List.length_set] at hi
    by_cases e : i = k
    · subst e
      rw [List.getElem_set_self]
      exact hva
    · rw [List.getElem_set_ne (by omega)]
      exact owns_apart (h.own i (by rw [← h.len]; exact hi) hi (by rw [← h.len]; exact hi)) h.row hE

theorem RowBrs.below {w w' : World} {B E : Nat} {v : Value} {l : List Br} {us : List Value} (h : RowBrs w B E v l us) (hb : Below w.heap.size w w') : RowBrs w' B E v l us :=
  ⟨h.len, owns_below h.row hb, fun i hi hi' => (h.own i hi hi').below hb, h.apart⟩

theorem IsInts.grown {w w' : World} {v : Value} {xs : List Int} {row : Option Nat} (h : IsInts w v xs) (hg : w.grownBy w' row) (hne : v.ownBlock = none ∨ v.ownBlock ≠ row) : IsInts w' v xs :=
  Rd.same h fun k hk hv => hg.block k hk (by rcases hne with hn | hn; rw [hn] at hv; cases hv; rw [hv] at hn; exact hn)

theorem RowBrs.setOpen {w : World} {B E k g cap : Nat} {l : List Br} {us : List Value} (h : RowBrs w B E (.slice (some ⟨g, 0, none⟩) l.length cap) l us) (hk : k < l.length) (o : Bool) :
    RowBrs (w.setCell ⟨g, k * 5 + 4, none⟩ (.bool o)) B E (.slice (some ⟨g, 0, none⟩) l.length cap) (l.set k { l[k] with opn := o }) us := by
  have hku : k < us.length := by rw [h.len]; exact hk
  have hst := h.row.stored (k * 5 + 4) (.bool o)
  have hset : (brCells l us).set (k * 5 + 4) (.bool o) = brCells (l.set k { l[k] with opn := o }) (us.set k us[k]) :=
    brCells_set l us h.len k 4 hk (by omega) (.bool o) _ us[k] (by simp [brRow])
  rw [List.set_getElem_self] at hset
  refine ⟨by simpa using h.len, ?_, ?_, h.apart⟩
  · rw [← hset, List.length_set]
    exact hst.1
  · intro i hi hi'
    simp only [List.length_set] at hi
    have h1 : IsInts (w.setCell ⟨g, k * 5 + 4, none⟩ (.bool o)) us[i] l[i].own := (h.own i hi hi').grown hst.2 (by simpa [Value.ownBlock] using h.apart i hi')
    by_cases e : i = k
    · subst e
      rw [List.getElem_set_self]
      exact h1
    · rw [List.getElem_set_ne (by omega)]
      exact h1

end Go.Proofs.Ytgfnelpfoegdaaa
