/-
  The facts known after an operation, in plain words: the map of the last versions, and the list of its facts in the order of their entries. No program in sight.
-/
import Derived.Test.YtgfnelpfoegdaaaFfD
import Derived.Test.YtgfnelpfoegdaaaFfS
import Derived.Maps.RangeWalk
namespace Go.Proofs.Ytgfnelpfoegdaaa
open Go.RowKit Go.Maps

def kI (n : Int) : Lit := .int .i64 n
theorem kI_key (n : Int) : WideAt.IsKeyLit (kI n) := trivial
theorem kI_inj {a b : Int} (h : kI a = kI b) : a = b := by unfold kI at h; injection h

open Classical in
noncomputable def vR (v : Value) : Option (DataW Vs × List MemPlace) := if h : ∃ x : Vs, v = .agg (vsE x).toArray then some (.held h.choose, []) else none
theorem vR_mk (x : Vs) : vR (.agg (vsE x).toArray) = some (.held x, []) := by
  have h : ∃ y : Vs, Value.agg (vsE x).toArray = .agg (vsE y).toArray := ⟨x, rfl⟩
  unfold vR
  rw [dif_pos h]
  have h1 := h.choose_spec
  simp only [Value.agg.injEq] at h1
  have h2 : vsE x = vsE h.choose := by simpa using congrArg Array.toList h1
  rw [← vsE_inj h2]
theorem vR_inv {v : Value} {y : DataW Vs × List MemPlace} (h : vR v = some y) : ∃ x : Vs, v = .agg (vsE x).toArray ∧ y = (.held x, []) := by
  unfold vR at h
  split at h
  · rename_i h1
    cases h
    exact ⟨h1.choose, h1.choose_spec, rfl⟩
  · cases h

/-- The last version of each entry, up to an operation. -/
def knownD (op : Int) (l : List Vs) : DataW Vs := l.foldl (fun D x => if x.op ≤ op then D.put (kI x.f.ent) (.held x) else D) (.map [])
theorem knownD_snoc (op : Int) (l : List Vs) (x : Vs) : knownD op (l ++ [x]) = if x.op ≤ op then (knownD op l).put (kI x.f.ent) (.held x) else knownD op l := by
  simp [knownD, List.foldl_append]

structure KnowOk (D : DataW Vs) : Prop where
  map : IsMap D
  at_ : ∀ kl, Maps.has D kl = true → ∃ c : Vs, kl = kI c.f.ent ∧ 0 ≤ c.f.ent ∧ c.f.ent < 6 ∧ ∀ zd, D.atKey kl zd = .held c
theorem KnowOk.put {D : DataW Vs} (h : KnowOk D) (x : Vs) (h0 : 0 ≤ x.f.ent) (h1 : x.f.ent < 6) : KnowOk (D.put (kI x.f.ent) (.held x)) := by
  refine ⟨h.map.put _ _, fun kl hk => ?_⟩
  by_cases he : kl = kI x.f.ent
  · subst he
    exact ⟨x, rfl, h0, h1, fun zd => atKey_put_same h.map (kI_key _) _ _⟩
  · rw [has_put_other he] at hk
    obtain ⟨c, e1, e2, e3, e4⟩ := h.at_ kl hk
    exact ⟨c, e1, e2, e3, fun zd => by rw [atKey_put_other he]; exact e4 zd⟩
theorem foldD_ok (op : Int) : ∀ (l : List Vs) (D : DataW Vs), (∀ x ∈ l, 0 ≤ x.f.ent ∧ x.f.ent < 6) → KnowOk D → KnowOk (l.foldl (fun D x => if x.op ≤ op then D.put (kI x.f.ent) (.held x) else D) D)
  | [], D, _, h => h
  | x :: l, D, hl, h => by
    rw [List.foldl_cons]
    refine foldD_ok op l _ (fun y hy => hl y (by simp [hy])) ?_
    split
    · exact h.put x (hl x (by simp)).1 (hl x (by simp)).2
    · exact h
theorem knownD_ok (op : Int) (l : List Vs) (h : ∀ x ∈ l, 0 ≤ x.f.ent ∧ x.f.ent < 6) : KnowOk (knownD op l) :=
  foldD_ok op l _ h ⟨isMap_empty, fun kl hk => by simp [has_eq] at hk⟩
theorem foldD_skip (op : Int) : ∀ (l : List Vs) (D : DataW Vs), (∀ x ∈ l, op < x.op) → l.foldl (fun D x => if x.op ≤ op then D.put (kI x.f.ent) (.held x) else D) D = D
  | [], D, _ => rfl
  | x :: l, D, h => by
    rw [List.foldl_cons, if_neg (by have := h x (by simp); omega)]
    exact foldD_skip op l D fun y hy => h y (by simp [hy])
/-- Versions behind the operation say nothing. -/
theorem knownD_take (op : Int) (l : List Vs) (T : Nat) (h : ∀ x ∈ l.drop T, op < x.op) : knownD op l = knownD op (l.take T) := by
  conv => lhs; rw [← List.take_append_drop T l]
  unfold knownD
  rw [List.foldl_append]
  exact foldD_skip op _ _ h

/-- The list of facts that a map holds. -/
structure AtSpec (D : DataW Vs) (l : List Fc) : Prop where
  sorted : l.Pairwise fun a b => a.ent < b.ent
  mem : ∀ f, f ∈ l ↔ ∃ c : Vs, Maps.has D (kI f.ent) = true ∧ D.atKey (kI f.ent) .nil = .held c ∧ f = c.f

theorem eq_of_mem_strict : ∀ {l₁ l₂ : List Fc}, l₁.Pairwise (fun a b => a.ent < b.ent) → l₂.Pairwise (fun a b => a.ent < b.ent) → (∀ p, p ∈ l₁ ↔ p ∈ l₂) → l₁ = l₂
  | [], [], _, _, _ => rfl
  | [], b :: s, _, _, h => by have := (h b).2 (by simp); simp at this
  | a :: r, [], _, _, h => by have := (h a).1 (by simp); simp at this
  | a :: r, b :: s, h1, h2, h => by
    obtain ⟨a1, a2⟩ := List.pairwise_cons.1 h1
    obtain ⟨b1, b2⟩ := List.pairwise_cons.1 h2
    have hab : a = b := by
      rcases List.mem_cons.1 ((h a).1 (by simp)) with e | ha
      · exact e
      · rcases List.mem_cons.1 ((h b).2 (by simp)) with e | hb
        · exact e.symm
        · have h3 := a1 b hb
          have h4 := b1 a ha
          omega
    subst hab
    rw [eq_of_mem_strict a2 b2 (fun p => ⟨fun hp => by
      rcases List.mem_cons.1 ((h p).1 (by simp [hp])) with e | hp'
      · have := a1 p hp
        rw [e] at this
        omega
      · exact hp', fun hp => by
      rcases List.mem_cons.1 ((h p).2 (by simp [hp])) with e | hp'
      · have := b1 p hp
        rw [e] at this
        omega
      · exact hp'⟩)]
theorem AtSpec.eq {D : DataW Vs} {l₁ l₂ : List Fc} (h1 : AtSpec D l₁) (h2 : AtSpec D l₂) : l₁ = l₂ := eq_of_mem_strict h1.sorted h2.sorted fun f => (h1.mem f).trans (h2.mem f).symm

/-- What the range has collected: the facts of the keys ks. -/
structure Got (D : DataW Vs) (left : Lit → Bool) (ks : List Int) (fs : List Fc) : Prop where
  nodup : ks.Nodup
  each : ∀ k ∈ ks, Maps.has D (kI k) = true ∧ left (kI k) = false
  all : ∀ k, Maps.has D (kI k) = true → left (kI k) = false → k ∈ ks
  in_ : ∀ kl, left kl = true → Maps.has D kl = true
  ents : fs.map (·.ent) = ks
  fact : ∀ f ∈ fs, ∃ c : Vs, D.atKey (kI f.ent) .nil = .held c ∧ f = c.f

theorem Got.start (D : DataW Vs) : Got D (Maps.has D) [] [] where
  nodup := List.nodup_nil
  each := fun k hk => by cases hk
  all := fun k h1 h2 => by rw [h1] at h2; cases h2
  in_ := fun _ h => h
  ents := rfl
  fact := fun f hf => by cases hf
theorem Got.step {D : DataW Vs} {left : Lit → Bool} {ks : List Int} {fs : List Fc} (h : Got D left ks fs) (ok : KnowOk D) {x : Int} {c : Vs} (hl : left (kI x) = true) (hat : ∀ zd, D.atKey (kI x) zd = .held c) :
    Got D (fun z => left z && !z.sameKey (kI x)) (ks ++ [x]) (fs ++ [c.f]) := by
  obtain ⟨c', e1, -, -, e4⟩ := ok.at_ (kI x) (h.in_ _ hl)
  have hc : c' = c := by
    have h2 := e4 .nil
    rw [hat .nil] at h2
    injection h2 with h3
    exact h3.symm
  subst hc
  have hx : c'.f.ent = x := (kI_inj e1).symm
  refine ⟨?_, fun k hk => ?_, fun k h1 h2 => ?_, fun kl hk => ?_, ?_, fun f hf => ?_⟩
  · rw [List.nodup_append]
    refine ⟨h.nodup, by simp, fun a ha b hb => ?_⟩
    obtain rfl := List.mem_singleton.1 hb
    intro he
    subst he
    have := (h.each a ha).2
    rw [hl] at this
    cases this
  · rcases List.mem_append.1 hk with h1 | h1
    · refine ⟨(h.each k h1).1, ?_⟩
      show (left (kI k) && _) = false
      rw [(h.each k h1).2]
      rfl
    · obtain rfl := List.mem_singleton.1 h1
      refine ⟨h.in_ _ hl, ?_⟩
      show (left (kI k) && !(kI k).sameKey (kI k)) = false
      rw [WideAt.sameKey_self (kI_key k)]
      simp
  · by_cases hk : k = x
    · subst hk; simp
    · have h3 : (kI k).sameKey (kI x) = false := sameKey_ne fun e => hk (kI_inj e)
      have h4 : left (kI k) = false := by
        have h2' : (left (kI k) && !(kI k).sameKey (kI x)) = false := h2
        rw [h3] at h2'
        simpa using h2'
      exact List.mem_append_left _ (h.all k h1 h4)
  · have hk' : (left kl && !kl.sameKey (kI x)) = true := hk
    exact h.in_ kl (by simp at hk'; exact hk'.1)
  · rw [List.map_append, h.ents, List.map_singleton, hx]
  · rcases List.mem_append.1 hf with h1 | h1
    · exact h.fact f h1
    · obtain rfl := List.mem_singleton.1 h1
      exact ⟨c', by rw [hx]; exact hat .nil, rfl⟩
theorem nodup_le : ∀ (n : Nat) (l : List Int), l.Nodup → (∀ x ∈ l, 0 ≤ x ∧ x < n) → l.length ≤ n
  | 0, l, _, h => by
    cases l with
    | nil => simp
    | cons a r => have := h a (by simp); omega
  | n + 1, l, hd, h => by
    by_cases hm : (n : Int) ∈ l
    · have h1 := nodup_le n (l.erase (n : Int)) (hd.erase _) (fun x hx => by
        have h2 := (hd.mem_erase_iff).1 hx
        have h3 := h x h2.2
        have h4 := h2.1
        omega)
      rw [List.length_erase_of_mem hm] at h1
      omega
    · have h1 := nodup_le n l hd (fun x hx => by
        have h3 := h x hx
        have h4 : x ≠ (n : Int) := fun e => hm (e ▸ hx)
        omega)
      omega
theorem Got.len {D : DataW Vs} {left : Lit → Bool} {ks : List Int} {fs : List Fc} (h : Got D left ks fs) (ok : KnowOk D) : fs.length ≤ 6 := by
  have h1 := nodup_le 6 ks h.nodup fun k hk => by
    obtain ⟨c, e1, e2, e3, -⟩ := ok.at_ (kI k) (h.each k hk).1
    rw [kI_inj e1]
    omega
  have h2 := congrArg List.length h.ents
  rw [List.length_map] at h2
  omega
theorem Got.done {D : DataW Vs} {left : Lit → Bool} {ks : List Int} {fs l : List Fc} (h : Got D left ks fs) (hl : ∀ kl, left kl = false) (hp : l.Perm fs) (hs : FcSorted l) : AtSpec D l := by
  have hn : (l.map (·.ent)).Nodup := ((hp.map (·.ent)).nodup_iff).2 (by rw [h.ents]; exact h.nodup)
  refine ⟨?_, fun f => ⟨fun hf => ?_, fun hf => ?_⟩⟩
  · have h1 : l.Pairwise fun a b => a.ent ≠ b.ent := by
      have h2 := hn
      rw [List.nodup_iff_pairwise_ne, List.pairwise_map] at h2
      exact h2
    exact (hs.and h1).imp fun {a b} hab => by have := hab.1; have := hab.2; omega
  · have hf' := hp.mem_iff.1 hf
    obtain ⟨c, e1, e2⟩ := h.fact f hf'
    have hk : f.ent ∈ ks := by rw [← h.ents]; exact List.mem_map.2 ⟨f, hf', rfl⟩
    exact ⟨c, (h.each _ hk).1, e1, e2⟩
  · obtain ⟨c, h1, h2, h3⟩ := hf
    have hk := h.all f.ent h1 (hl _)
    rw [← h.ents] at hk
    obtain ⟨g, hg, hge⟩ := List.mem_map.1 hk
    obtain ⟨c2, e1, e2⟩ := h.fact g hg
    rw [hge, h2] at e1
    injection e1 with e1
    subst e1
    rw [h3, ← e2]
    exact hp.mem_iff.2 hg

end Go.Proofs.Ytgfnelpfoegdaaa
