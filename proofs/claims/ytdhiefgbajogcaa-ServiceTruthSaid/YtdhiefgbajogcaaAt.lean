/-
  What the walks say of memory: slices of attempts (five cells each, the last a slice of returns). No program in sight.
-/
import Derived.Test.YtdhiefgbajogcaaRtM
namespace Go.Proofs.Ytdhiefgbajogcaa
open Go.RowKit

structure At where
  ent : Int
  par : Int
  car : Int
  sent : Int
  own : List Ret

/-- The cells of attempt x whose own returns are the slice u. -/
def atRow (x : At) (u : Value) : List Value := [.int .i64 x.ent, .int .i64 x.par, .int .i64 x.car, .int .i64 x.sent, u]

def atRows : List At → List Value → List (List Value)
  | x :: l, u :: us => atRow x u :: atRows l us
  | _, _ => []

def atCells (l : List At) (us : List Value) : List Value := (atRows l us).flatten

theorem atRows_len : ∀ (l : List At) (us : List Value), us.length = l.length → (atRows l us).length = l.length
  | [], us, _ => by simp [atRows]
  | x :: l, [], h => by simp at h
  | x :: l, u :: us, h => by simp [atRows, atRows_len l us (by simpa using h)]

theorem atRows_row (l : List At) (us : List Value) : ∀ r ∈ atRows l us, r.length = 5 := by
  fun_induction atRows l us with
  | case1 x l u us ih => intro r hr; rcases List.mem_cons.1 hr with rfl | h; rfl; exact ih r h
  | case2 => intro r hr; cases hr

theorem atRows_get : ∀ (l : List At) (us : List Value) (h : us.length = l.length) (i : Nat) (hi : i < l.length) (hr : i < (atRows l us).length), (atRows l us)[i] = atRow l[i] (us[i]'(by omega))
  | [], us, _, i, hi, _ => absurd hi (Nat.not_lt_zero _)
  | x :: l, [], h, _, _, _ => by simp at h
  | x :: l, u :: us, h, 0, _, _ => rfl
  | x :: l, u :: us, h, i + 1, hi, hr => by simpa [atRows] using atRows_get l us (by simpa using h) i (by simpa using hi) (by simpa [atRows] using hr)

theorem atRows_set : ∀ (l : List At) (us : List Value) (i : Nat) (x : At) (u : Value), (atRows l us).set i (atRow x u) = atRows (l.set i x) (us.set i u)
  | [], us, i, x, u => by simp [atRows]
  | y :: l, [], i, x, u => by simp [atRows]
  | y :: l, u' :: us, 0, x, u => rfl
  | y :: l, u' :: us, i + 1, x, u => by simp [atRows, atRows_set l us i x u]

theorem atRows_append : ∀ (l : List At) (us : List Value) (_ : us.length = l.length) (x : At) (u : Value), atRows (l ++ [x]) (us ++ [u]) = atRows l us ++ [atRow x u]
  | [], [], _, x, u => rfl
  | [], _ :: _, h, _, _ => by simp at h
  | y :: l, [], h, x, u => by simp at h
  | y :: l, u' :: us, h, x, u => by simp [atRows, atRows_append l us (by simpa using h) x u]

theorem atCells_len (l : List At) (us : List Value) (h : us.length = l.length) : (atCells l us).length = l.length * 5 := by
  rw [atCells, flat_len 5 _ (atRows_row l us), atRows_len l us h]

theorem atCells_get (l : List At) (us : List Value) (h : us.length = l.length) (i k : Nat) (hi : i < l.length) (hk : k < 5) : (atCells l us)[i * 5 + k]? = (atRow l[i] (us[i]'(by omega)))[k]? := by
  rw [atCells, flat_get 5 _ i k (by rw [atRows_len l us h]; exact hi) (atRows_row l us) hk, atRows_get l us h i hi]

/-- One cell of one attempt is written. -/
theorem atCells_set (l : List At) (us : List Value) (h : us.length = l.length) (i k : Nat) (hi : i < l.length) (hk : k < 5) (v : Value) (x : At) (u : Value)
    (hx : (atRow l[i] (us[i]'(by omega))).set k v = atRow x u) : (atCells l us).set (i * 5 + k) v = atCells (l.set i x) (us.set i u) := by
  rw [atCells, flat_set 5 v _ i k (by rw [atRows_len l us h]; exact hi) (atRows_row l us) hk, atRows_get l us h i hi, hx, atRows_set]
  rfl

theorem atCells_append (l : List At) (us : List Value) (h : us.length = l.length) (x : At) (u : Value) : atCells (l ++ [x]) (us ++ [u]) = atCells l us ++ atRow x u := by
  rw [atCells, atRows_append l us h, List.flatten_append]
  simp [atCells]

theorem atCells_one (l : List At) (us : List Value) (h1 : ∀ u ∈ us, u.oneCell' = true) : ∀ u ∈ atCells l us, u.oneCell' = true := by
  unfold atCells
  fun_induction atRows l us with
  | case1 x l u us ih =>
    intro c hc
    rw [List.flatten_cons] at hc
    rcases List.mem_append.1 hc with h | h
    · simp [atRow] at h
      rcases h with rfl | rfl | rfl | rfl | rfl
      · rfl
      · rfl
      · rfl
      · rfl
      · exact h1 c (by simp)
    · exact ih (fun u hu => h1 u (by simp [hu])) c h
  | case2 => intro c hc; cases hc

/-- v is a slice of attempts that reads as l; us: their own returns' slices. -/
def IsAtsU (w : World) (v : Value) (l : List At) (us : List Value) : Prop :=
  us.length = l.length ∧ Rd w v 5 l.length (atCells l us) ∧ ∀ i (h : i < l.length) (h' : i < us.length), IsRts w us[i] l[i].own

def IsAts (w : World) (v : Value) (l : List At) : Prop := ∃ us, IsAtsU w v l us

theorem IsAtsU.below {w w' : World} {v : Value} {l : List At} {us : List Value} (h : IsAtsU w v l us) (hb : Below w.heap.size w w') : IsAtsU w' v l us :=
  ⟨h.1, h.2.1.below hb, fun i hi hi' => (h.2.2 i hi hi').below hb⟩

theorem IsAts.below {w w' : World} {v : Value} {l : List At} (h : IsAts w v l) (hb : Below w.heap.size w w') : IsAts w' v l := by
  obtain ⟨us, h⟩ := h
  exact ⟨us, h.below hb⟩

theorem IsAts.nil (w : World) (a : Option Addr) (cap : Nat) : IsAts w (.slice a 0 cap) [] := ⟨[], rfl, Rd.nil w a 5 cap, fun _ h => absurd h (Nat.not_lt_zero _)⟩

theorem IsRts.one {w : World} {v : Value} {xs : List Ret} (h : IsRts w v xs) : v.oneCell' = true := by
  obtain ⟨_, _, a, cap, rfl, _, _⟩ := h
  rfl

theorem IsAtsU.ones {w : World} {v : Value} {l : List At} {us : List Value} (h : IsAtsU w v l us) : ∀ u ∈ us, u.oneCell' = true := by
  intro u hu
  obtain ⟨i, hi, rfl⟩ := List.getElem_of_mem hu
  exact (h.2.2 i (by rw [← h.1]; exact hi) hi).one

/-- What a walk reads. -/
theorem IsAtsU.open {w : World} {v : Value} {l : List At} {us : List Value} (h : IsAtsU w v l us) :
    ∃ a cap, v = .slice a l.length cap ∧ l.length ≤ maxLen ∧ l.length ≤ cap ∧ ∀ i (hi : i < l.length), ∃ b off u, a = some ⟨b, off, none⟩ ∧ us[i]? = some u ∧ IsRts w u l[i].own ∧
      w.cell? ⟨b, off + i * 5, none⟩ = some (.int .i64 l[i].ent) ∧ w.cell? ⟨b, off + i * 5 + 1, none⟩ = some (.int .i64 l[i].par) ∧
      w.cell? ⟨b, off + i * 5 + 2, none⟩ = some (.int .i64 l[i].car) ∧ w.cell? ⟨b, off + i * 5 + 3, none⟩ = some (.int .i64 l[i].sent) ∧ w.cell? ⟨b, off + i * 5 + 4, none⟩ = some u := by
  obtain ⟨h0, ⟨h1, h2, a, cap, rfl, hn, hc⟩, h3⟩ := h
  refine ⟨a, cap, rfl, h2, hn, fun i hi => ?_⟩
  have c0 := hc (i * 5 + 0) _ (by rw [atCells_get l us h0 i 0 hi (by omega)]; rfl)
  have c1 := hc (i * 5 + 1) _ (by rw [atCells_get l us h0 i 1 hi (by omega)]; rfl)
  have c2 := hc (i * 5 + 2) _ (by rw [atCells_get l us h0 i 2 hi (by omega)]; rfl)
  have c3 := hc (i * 5 + 3) _ (by rw [atCells_get l us h0 i 3 hi (by omega)]; rfl)
  have c4 := hc (i * 5 + 4) _ (by rw [atCells_get l us h0 i 4 hi (by omega)]; rfl)
  obtain ⟨b, off, rfl, d0⟩ := c0
  obtain ⟨_, _, e, d1⟩ := c1
  cases e
  obtain ⟨_, _, e, d2⟩ := c2
  cases e
  obtain ⟨_, _, e, d3⟩ := c3
  cases e
  obtain ⟨_, _, e, d4⟩ := c4
  cases e
  have hi' : i < us.length := by omega
  exact ⟨b, off, us[i], rfl, List.getElem?_eq_getElem hi', h3 i hi hi', d0, d1, d2, d3, d4⟩

theorem IsAts.open {w : World} {v : Value} {l : List At} (h : IsAts w v l) :
    ∃ a cap, v = .slice a l.length cap ∧ l.length ≤ maxLen ∧ l.length ≤ cap ∧ ∀ i (hi : i < l.length), ∃ b off u, a = some ⟨b, off, none⟩ ∧ IsRts w u l[i].own ∧
      w.cell? ⟨b, off + i * 5, none⟩ = some (.int .i64 l[i].ent) ∧ w.cell? ⟨b, off + i * 5 + 1, none⟩ = some (.int .i64 l[i].par) ∧
      w.cell? ⟨b, off + i * 5 + 2, none⟩ = some (.int .i64 l[i].car) ∧ w.cell? ⟨b, off + i * 5 + 3, none⟩ = some (.int .i64 l[i].sent) ∧ w.cell? ⟨b, off + i * 5 + 4, none⟩ = some u := by
  obtain ⟨us, h⟩ := h
  obtain ⟨a, cap, rfl, hl, hn, hc⟩ := h.open
  refine ⟨a, cap, rfl, hl, hn, fun i hi => ?_⟩
  obtain ⟨b, off, u, rfl, _, r⟩ := hc i hi
  exact ⟨b, off, u, rfl, r⟩

/-- v is a slice of attempts that the call itself has made, from block B on: it reads as l; of the first k attempts the own slices are the call's own, too; no two share a block. -/
structure OwnAts (w : World) (B E EI : Nat) (v : Value) (l : List At) (us : List Value) (k : Nat) : Prop where
  len : us.length = l.length
  row : w.ownsRow B E 5 v l.length (atCells l us)
  own : ∀ i (h : i < l.length) (h' : i < us.length), i < k → w.ownsRow B EI 4 us[i] l[i].own.length (rtCells l[i].own)
  two : ∀ i j (h : i < us.length) (h' : j < us.length), i < k → j < k → i ≠ j → us[i].ownBlock = none ∨ us[i].ownBlock ≠ us[j].ownBlock

theorem OwnAts.reads {w : World} {B E EI : Nat} {v : Value} {l : List At} {us : List Value} (h : OwnAts w B E EI v l us l.length) : IsAtsU w v l us :=
  ⟨h.len, Rd.of_owns h.row, fun i hi hi' => IsRts.of_owns (h.own i hi hi' hi)⟩

theorem OwnAts.below {w w' : World} {B E EI k : Nat} {v : Value} {l : List At} {us : List Value} (h : OwnAts w B E EI v l us k) (hb : Below w.heap.size w w') : OwnAts w' B E EI v l us k :=
  ⟨h.len, owns_below h.row hb, fun i hi hi' hk => owns_below (h.own i hi hi' hk) hb, h.two⟩

/-- One attempt gets another slice of its own, made later than all else (block C or beyond). -/
theorem OwnAts.put {w : World} {B E EI k C : Nat} {g cap : Nat} {l : List At} {us : List Value} {u : Value} (hE : EI ≠ E)
    (h : OwnAts w B E EI (.slice (some ⟨g, 0, none⟩) l.length cap) l us k) (hC : g < C) (hlt : ∀ i (h : i < us.length), i < k → ∀ b, us[i].ownBlock = some b → b < C) (hBC : B ≤ C)
    (hk : k < l.length) (hu : w.ownsRow C EI 4 u l[k].own.length (rtCells l[k].own)) :
    OwnAts (w.setCell ⟨g, k * 5 + 4, none⟩ u) B E EI (.slice (some ⟨g, 0, none⟩) l.length cap) l (us.set k u) (k + 1) := by
  have hst := h.row.stored (k * 5 + 4) u
  have hkus : k < us.length := by rw [h.len]; exact hk
  have hset : (atCells l us).set (k * 5 + 4) u = atCells l (us.set k u) := by
    have := atCells_set l us h.len k 4 hk (by omega) u l[k] u (by simp [atRow])
    rw [this, List.set_getElem_self]
  have hne : u.ownBlock = none ∨ u.ownBlock ≠ some g := by
    cases hb : u.ownBlock with
    | none => exact .inl rfl
    | some b => right; intro e; cases e; have := (hu.lt g hb).1; omega
  refine ⟨by simpa using h.len, ?_, ?_, ?_⟩
  · rw [← hset]; exact hst.1
  · intro i hi hi' hik
    by_cases e : i = k
    · subst e
      rw [List.getElem_set_self]
      exact owns_mono (hu.kept hst.2 hne) hBC
    · rw [List.getElem_set_ne (by omega)]
      have hi'' : i < us.length := by simpa using hi'
      exact (h.own i hi hi'' (by omega)).kept hst.2 (by simpa [Value.ownBlock] using owns_apart (h.own i hi hi'' (by omega)) h.row hE)
  · intro i j hi hj hik hjk hij
    have hi' : i < us.length := by simpa using hi
    have hj' : j < us.length := by simpa using hj
    by_cases e : i = k
    · subst e
      rw [List.getElem_set_self, List.getElem_set_ne (by omega)]
      cases hb : u.ownBlock with
      | none => exact .inl rfl
      | some b =>
        right
        intro e
        have h1 := (hu.lt b hb).1
        have h2 := hlt j hj' (by omega) b e.symm
        omega
    · by_cases e' : j = k
      · subst e'
        rw [List.getElem_set_self, List.getElem_set_ne (by omega)]
        cases hb : us[i].ownBlock with
        | none => exact .inl rfl
        | some b =>
          right
          intro e
          have h1 := (hu.lt b e.symm).1
          have h2 := hlt i hi' (by omega) b hb
          omega
      · rw [List.getElem_set_ne (by omega), List.getElem_set_ne (by omega)]
        exact h.two i j hi' hj' (by omega) (by omega) hij

theorem OwnAts.lt {w : World} {B E EI k : Nat} {v : Value} {l : List At} {us : List Value} (h : OwnAts w B E EI v l us k) : ∀ i (_ : i < us.length), i < k → ∀ b, us[i].ownBlock = some b → b < w.heap.size :=
  fun i hi hk b hb => ((h.own i (by rw [← h.len]; exact hi) hi hk).lt b hb).2

/-- A attempt is appended. -/
theorem OwnAts.push {w w' : World} {B E EI C : Nat} {v v' : Value} {l : List At} {us : List Value} {x : At} {u : Value} (hE : EI ≠ E)
    (h : OwnAts w B E EI v l us l.length) (hlt : ∀ i (h : i < us.length), ∀ b, us[i].ownBlock = some b → b < C) (hBC : B ≤ C) (hu : w.ownsRow C EI 4 u x.own.length (rtCells x.own))
    (hv : w'.ownsRow B E 5 v' (l.length + 1) (atCells l us ++ atRow x u)) (hg : w.grownBy w' v.ownBlock) : OwnAts w' B E EI v' (l ++ [x]) (us ++ [u]) (l.length + 1) := by
  have hlen := h.len
  refine ⟨by simp [hlen], ?_, ?_, ?_⟩
  · rw [atCells_append l us hlen]
    simpa using hv
  · intro i hi hi' hik
    by_cases e : i < l.length
    · rw [List.getElem_append_left (by omega), List.getElem_append_left e]
      have := h.own i e (by omega) e
      exact this.kept hg (owns_apart this h.row hE)
    · obtain rfl : i = l.length := by simp at hi; omega
      have e1 : (us ++ [u])[l.length] = u := by rw [List.getElem_append_right (by omega)]; simp [hlen]
      have e2 : (l ++ [x])[l.length] = x := by simp
      rw [e1, e2]
      exact owns_mono (hu.kept hg (owns_apart hu h.row hE)) hBC
  · intro i j hi hj hik hjk hij
    simp at hi hj
    by_cases e : i < us.length
    · rw [List.getElem_append_left e]
      by_cases e' : j < us.length
      · rw [List.getElem_append_left e']
        exact h.two i j e e' (by omega) (by omega) hij
      · obtain rfl : j = us.length := by omega
        simp only [List.getElem_concat_length]
        cases hb : us[i].ownBlock with
        | none => exact .inl rfl
        | some b =>
          right
          intro e1
          have h1 := (hu.lt b e1.symm).1
          have h2 := hlt i e b hb
          omega
    · obtain rfl : i = us.length := by omega
      have e' : j < us.length := by omega
      rw [List.getElem_append_left e']
      simp only [List.getElem_concat_length]
      cases hb : u.ownBlock with
      | none => exact .inl rfl
      | some b =>
        right
        intro e1
        have h1 := (hu.lt b hb).1
        have h2 := hlt j e' b e1.symm
        omega

theorem OwnAts.nil (w : World) (B E EI : Nat) : OwnAts w B E EI (.slice none 0 0) [] [] 0 :=
  ⟨rfl, World.ownsRow_nil _ _ _ _, fun _ _ _ h => absurd h (Nat.not_lt_zero _), fun _ _ _ _ h => absurd h (Nat.not_lt_zero _)⟩

theorem atRow_one (x : At) {u : Value} (h : u.oneCell' = true) : ∀ c ∈ atRow x u, c.oneCell' = true := by
  intro c hc
  simp [atRow] at hc
  rcases hc with rfl | rfl | rfl | rfl | rfl
  · rfl
  · rfl
  · rfl
  · rfl
  · exact h

theorem OwnAts.mono {w : World} {B B' E EI k : Nat} {v : Value} {l : List At} {us : List Value} (h : OwnAts w B E EI v l us k) (hB : B' ≤ B) : OwnAts w B' E EI v l us k :=
  ⟨h.len, owns_mono h.row hB, fun i hi hi' hk => owns_mono (h.own i hi hi' hk) hB, h.two⟩

/-- The row of attempts is the call's own; the attempts' own slices only read. -/
structure RowAts (w : World) (B E : Nat) (v : Value) (l : List At) (us : List Value) : Prop where
  len : us.length = l.length
  row : w.ownsRow B E 5 v l.length (atCells l us)
  own : ∀ i (h : i < l.length) (h' : i < us.length), IsRts w us[i] l[i].own
  apart : ∀ i (h : i < us.length), us[i].ownBlock = none ∨ us[i].ownBlock ≠ v.ownBlock

theorem RowAts.reads {w : World} {B E : Nat} {v : Value} {l : List At} {us : List Value} (h : RowAts w B E v l us) : IsAtsU w v l us :=
  ⟨h.len, Rd.of_owns h.row, h.own⟩

theorem OwnAts.rowAts {w : World} {B E EI : Nat} {v : Value} {l : List At} {us : List Value} (hE : EI ≠ E) (h : OwnAts w B E EI v l us l.length) : RowAts w B E v l us :=
  ⟨h.len, h.row, fun i hi hi' => IsRts.of_owns (h.own i hi hi' hi), fun i hi => owns_apart (h.own i (by rw [← h.len]; exact hi) hi (by rw [← h.len]; exact hi)) h.row hE⟩

/-- One attempt's own slice was appended to, and is stored back. -/
theorem OwnAts.upd {W W2 : World} {B E EI k g cap : Nat} {l : List At} {us : List Value} {v' : Value} {own' : List Ret} (hE : EI ≠ E)
    (h : OwnAts W B E EI (.slice (some ⟨g, 0, none⟩) l.length cap) l us l.length) (hk : k < l.length) (hku : k < us.length)
    (hv : W2.ownsRow B EI 4 v' own'.length (rtCells own')) (hg : W.grownBy W2 us[k].ownBlock) :
    RowAts (W2.setCell ⟨g, k * 5 + 4, none⟩ v') B E (.slice (some ⟨g, 0, none⟩) l.length cap) (l.set k { l[k] with own := own' }) (us.set k v') := by
  have hrow2 : W2.ownsRow B E 5 (.slice (some ⟨g, 0, none⟩) l.length cap) l.length (atCells l us) :=
    h.row.kept hg (by
      rcases owns_apart (h.own k hk hku hk) h.row hE with hn | hn
      · rw [hn]; right; simp [Value.ownBlock]
      · right; exact fun e => hn e.symm)
  have hst := hrow2.stored (k * 5 + 4) v'
  have hva := owns_apart hv hrow2 hE
  have hset : (atCells l us).set (k * 5 + 4) v' = atCells (l.set k { l[k] with own := own' }) (us.set k v') :=
    atCells_set l us h.len k 4 hk (by omega) v' _ v' (by simp [atRow])
  refine ⟨by simpa using h.len, ?_, ?_, ?_⟩
  · rw [← hset, List.length_set]
    exact hst.1
  · intro i hi hi'
    simp only [List.length_set] at hi hi'
    by_cases e : i = k
    · subst e
      rw [List.getElem_set_self, List.getElem_set_self]
      exact IsRts.of_owns (hv.kept hst.2 (by simpa [Value.ownBlock] using hva))
    · rw [List.getElem_set_ne (by omega), List.getElem_set_ne (by omega)]
      have h1 := h.own i hi hi' hi
      have h2 := h1.kept hg (h.two i k hi' hku hi hk e)
      exact IsRts.of_owns (h2.kept hst.2 (by simpa [Value.ownBlock] using owns_apart h2 hrow2 hE))
  · intro i hi
    simp only [List.length_set] at hi
    by_cases e : i = k
    · subst e
      rw [List.getElem_set_self]
      exact hva
    · rw [List.getElem_set_ne (by omega)]
      exact owns_apart (h.own i (by rw [← h.len]; exact hi) hi (by rw [← h.len]; exact hi)) h.row hE

theorem RowAts.below {w w' : World} {B E : Nat} {v : Value} {l : List At} {us : List Value} (h : RowAts w B E v l us) (hb : Below w.heap.size w w') : RowAts w' B E v l us :=
  ⟨h.len, owns_below h.row hb, fun i hi hi' => (h.own i hi hi').below hb, h.apart⟩

theorem IsRts.grown {w w' : World} {v : Value} {xs : List Ret} {row : Option Nat} (h : IsRts w v xs) (hg : w.grownBy w' row) (hne : v.ownBlock = none ∨ v.ownBlock ≠ row) : IsRts w' v xs :=
  Rd.same h fun k hk hv => hg.block k hk (by rcases hne with hn | hn; rw [hn] at hv; cases hv; rw [hv] at hn; exact hn)

end Go.Proofs.Ytdhiefgbajogcaa
