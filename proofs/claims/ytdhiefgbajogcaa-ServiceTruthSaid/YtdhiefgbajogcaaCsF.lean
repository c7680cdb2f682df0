/-
  Arguments that are a case, an attempt or a slice of attempts, as the walks read them.
-/
import Derived.Test.YtdhiefgbajogcaaRtF
import Derived.Test.YtdhiefgbajogcaaAt
namespace Go.Proofs.Ytdhiefgbajogcaa
open Go.RowKit Go.ChangeShapes Go.WideShapes Go.Deep

section
variable {H : Type} {enc : TypeId × Value → H} {P : Program} {w : World} {base : Nat} {spare : Nat → Bool} {held : Bool}

/-- A struct whose fields are one cell each. -/
theorem agg_of_trod {r : Reach} {b0 : Nat} {t : TypeId} {fs : Array Field} {v : Value} {d : DataW H} {p : List MemPlace} (hs : P.underlying t = some (.struct fs)) (hone : oneCellFields P fs = true) (hC : P.cellsOf t = fs.size)
    (hv : Value.okWide P w r b0 t v) (h : DataW.Trod enc P w base spare held t v d p) :
    ∃ (cs : Array Value) (n : Nat), v = .agg cs ∧ cs.size = fs.size ∧ ∀ (j : Nat) (f : Field), fs[j]? = some f → ∃ (u : Value) (y : DataW H × List MemPlace), cs[j]? = some u ∧ DataW.trod enc P w base spare held n f.type [u] = some y := by
  obtain ⟨cs, rfl, hsz⟩ := okWide_struct hs hv
  obtain ⟨fuel, hf⟩ := h
  obtain ⟨ys, n', hn', hy, hlen, hyl, hff⟩ := DataW.trod_struct hs hf
  have hsz' : cs.size = fs.size := hsz.trans hC
  refine ⟨cs, n', rfl, hsz', fun j f hj => ?_⟩
  obtain ⟨ho, hk⟩ := hone_of hone j f hj
  have hjl : j < fs.size := (Array.getElem?_eq_some_iff.1 hj).1
  have h1 := hff j f hj
  rw [ho, hk] at h1
  have hcl : (Value.cells (.agg cs)) = cs := rfl
  rw [hcl] at h1
  have hl : cs.toList.length = fs.size := by simpa using hsz'
  have hone' : (cs.toList.drop j).take 1 = [cs.toList[j]'(by omega)] := by
    rw [List.drop_eq_getElem_cons (by omega)]
    rfl
  rw [hone'] at h1
  have hys : ys[j]? = some (ys[j]'(by omega)) := List.getElem?_eq_getElem (by omega)
  exact ⟨_, _, by rw [← Array.getElem?_toList]; exact List.getElem?_eq_getElem (by omega), h1.trans hys⟩
end

section
variable {H : Type} {enc : TypeId × Value → H} {w : World} {base : Nat} {spare : Nat → Bool} {held : Bool}

theorem ints_of_cell {n : Nat} {v : Value} {y : DataW H × List MemPlace} (h : DataW.trod enc Try.prog w base (fun _ => true) held n 23 [v] = some y) : ∃ l, IsInts w v l ∧ ∀ x ∈ l, I64 x := by
  rcases open_ints Try.underlying23 Try.underlying3 (by kernel_rfl) h with ⟨hcs, _⟩ | ⟨x, l, c, zs, hcs, _, hl, hm, hz, _, hcell, hwz⟩
  · simp only [List.cons.injEq, and_true] at hcs
    subst hcs
    exact isInts_of_row (.inl ⟨rfl, rfl, rfl, rfl⟩)
  · simp only [List.cons.injEq, and_true] at hcs
    subst hcs
    exact isInts_of_row (.inr ⟨_, rfl, hl, hm, by simpa using hz, hcell, hwz⟩)

set_option maxRecDepth 100000 in
theorem case_of_trod {v : Value} {d : DataW H} {p : List MemPlace} {r : Reach} {b0 : Nat} (hval : Value.okWide Try.prog w r b0 35 v) (h : DataW.Trod enc Try.prog w base (fun _ => true) held 35 v d p) :
    ∃ (x u : Value) (en pa : Int) (xs ys : List Int), v = .agg #[x, u, .int .i64 en, .int .i64 pa] ∧ IsInts w x xs ∧ (∀ x ∈ xs, I64 x) ∧ IsInts w u ys ∧ (∀ x ∈ ys, I64 x) ∧ I64 en ∧ I64 pa := by
  obtain ⟨v0, v1, v2, v3, y0, y1, y2, y3, n, rfl, -, -, t0, t1, t2, t3⟩ := Joins.open_agg4 Try.underlying35 (by kernel_rfl) (by kernel_rfl) hval h
  obtain ⟨xs, a1, a2⟩ := ints_of_cell t0
  obtain ⟨ys, b1, b2⟩ := ints_of_cell t1
  obtain ⟨k2, rfl, h2⟩ := int_of_trod t2
  obtain ⟨k3, rfl, h3⟩ := int_of_trod t3
  exact ⟨_, _, k2, k3, xs, ys, rfl, a1, a2, b1, b2, h2, h3⟩

set_option maxRecDepth 100000 in
theorem rets_of_cell {n : Nat} {v : Value} {y : DataW H × List MemPlace} (h : DataW.trod enc Try.prog w base spare held n 27 [v] = some y) : ∃ l, IsRts w v l := by
  rcases fields_of_trod Try.underlying27 Try.underlying37 (by kernel_rfl) (by kernel_rfl) h with hcs | ⟨a, len, cap, hcs, hl, hm, hi⟩
  · simp only [List.cons.injEq, and_true] at hcs
    subst hcs
    exact ⟨[], IsRts.nil _ _ _⟩
  · simp only [List.cons.injEq, and_true] at hcs
    subst hcs
    rcases Nat.eq_zero_or_pos len with rfl | hpos
    · exact ⟨[], IsRts.nil _ _ _⟩
    obtain ⟨b, off, spot⟩ := a
    have hall : ∀ i, i < len → ∃ x : Ret, ∀ k u, (rtRow x)[k]? = some u → w.cell? ((⟨b, off, spot⟩ : Addr).add (i * 4 + k)) = some u := by
      intro i hil
      obtain ⟨n, hj⟩ := hi i hil
      obtain ⟨v0, y0, c0, t0⟩ := hj 0 _ rfl
      obtain ⟨v1, y1, c1, t1⟩ := hj 1 _ rfl
      obtain ⟨v2, y2, c2, t2⟩ := hj 2 _ rfl
      obtain ⟨v3, y3, c3, t3⟩ := hj 3 _ rfl
      obtain ⟨k0, rfl, -⟩ := int_of_trod t0
      obtain ⟨k1, rfl, -⟩ := int_of_trod t1
      obtain ⟨k2, rfl, -⟩ := int_of_trod t2
      obtain ⟨k3, rfl, -⟩ := int_of_trod t3
      refine ⟨⟨k0, k1, k2, k3⟩, fun k u hu => ?_⟩
      have hk2 : k < 4 := by have := (List.getElem?_eq_some_iff.1 hu).1; simpa [rtRow] using this
      rcases (by omega : k = 0 ∨ k = 1 ∨ k = 2 ∨ k = 3) with rfl | rfl | rfl | rfl
      all_goals
        simp [rtRow] at hu
        subst hu
        assumption
    obtain ⟨ls, hlen, hP⟩ := exists_list len hall
    subst hlen
    have hspot : spot = none := by
      have := hP 0 hpos 0 _ rfl
      simpa [Addr.add] using World.cell?_spot this
    subst hspot
    refine ⟨ls, by rw [rtCells_len], by omega, some ⟨b, off, none⟩, cap, rfl, by omega, fun j u hu => ⟨b, off, rfl, ?_⟩⟩
    have hj : j < ls.length * 4 := by
      have := (List.getElem?_eq_some_iff.1 hu).1
      rw [rtCells_len] at this
      exact this
    obtain ⟨i, k, rfl, hi2, hk2⟩ : ∃ i k, j = i * 4 + k ∧ i < ls.length ∧ k < 4 := ⟨j / 4, j % 4, by omega, by omega, by omega⟩
    rw [rtCells_get _ i k hi2 hk2] at hu
    have := hP i hi2 k u hu
    rw [show (⟨b, off, none⟩ : Addr).add (i * 4 + k) = ⟨b, off + (i * 4 + k), none⟩ from by unfold Addr.add; split <;> simp_all] at this
    exact this

set_option maxRecDepth 100000 in
theorem att_of_trod {v : Value} {d : DataW H} {p : List MemPlace} {r : Reach} {b0 : Nat} (hval : Value.okWide Try.prog w r b0 29 v) (h : DataW.Trod enc Try.prog w base spare held 29 v d p) :
    ∃ (a : At) (q : Value), v = .agg #[.int .i64 a.ent, .int .i64 a.par, .int .i64 a.car, .int .i64 a.sent, q] ∧ IsRts w q a.own := by
  obtain ⟨cs, n, rfl, hsz, hj⟩ := agg_of_trod Try.underlying29 (by kernel_rfl) (by kernel_rfl) hval h
  obtain ⟨v0, y0, c0, t0⟩ := hj 0 _ rfl
  obtain ⟨v1, y1, c1, t1⟩ := hj 1 _ rfl
  obtain ⟨v2, y2, c2, t2⟩ := hj 2 _ rfl
  obtain ⟨v3, y3, c3, t3⟩ := hj 3 _ rfl
  obtain ⟨v4, y4, c4, t4⟩ := hj 4 _ rfl
  obtain ⟨k0, rfl, -⟩ := int_of_trod t0
  obtain ⟨k1, rfl, -⟩ := int_of_trod t1
  obtain ⟨k2, rfl, -⟩ := int_of_trod t2
  obtain ⟨k3, rfl, -⟩ := int_of_trod t3
  obtain ⟨l, hl⟩ := rets_of_cell t4
  refine ⟨⟨k0, k1, k2, k3, l⟩, v4, ?_, hl⟩
  have hs5 : cs.size = 5 := hsz
  congr 1
  apply Array.ext
  · rw [hs5]; rfl
  · intro i h1 h2
    rw [Array.getElem?_eq_getElem (by omega)] at c0 c1 c2 c3 c4
    rcases (by omega : i = 0 ∨ i = 1 ∨ i = 2 ∨ i = 3 ∨ i = 4) with rfl | rfl | rfl | rfl | rfl
    · injection c0
    · injection c1
    · injection c2
    · injection c3
    · injection c4

set_option maxRecDepth 100000 in
theorem ats_of_trod {v : Value} {d : DataW H} {p : List MemPlace} {r : Reach} {b0 : Nat} (hval : Value.okWide Try.prog w r b0 22 v) (h : DataW.Trod enc Try.prog w base spare held 22 v d p) :
    ∃ l, IsAts w v l := by
  obtain ⟨a0, len0, cap0, rfl⟩ := okWide_slice Try.underlying22 hval
  obtain ⟨fuel, hf⟩ := h
  rcases fields_of_trod Try.underlying22 Try.underlying29 (by kernel_rfl) (by kernel_rfl) hf with hcs | ⟨a, len, cap, hcs, hl, hm, hi⟩
  · simp [Value.cells] at hcs
    obtain ⟨rfl, rfl, rfl⟩ := hcs
    exact ⟨[], IsAts.nil _ _ _⟩
  · simp [Value.cells] at hcs
    obtain ⟨rfl, rfl, rfl⟩ := hcs
    rcases Nat.eq_zero_or_pos len0 with rfl | hpos
    · exact ⟨[], IsAts.nil _ _ _⟩
    obtain ⟨b, off, spot⟩ := a
    have hall : ∀ i, i < len0 → ∃ x : At × Value, IsRts w x.2 x.1.own ∧ ∀ k u, (atRow x.1 x.2)[k]? = some u → w.cell? ((⟨b, off, spot⟩ : Addr).add (i * 5 + k)) = some u := by
      intro i hil
      obtain ⟨n, hj⟩ := hi i hil
      obtain ⟨v0, y0, c0, t0⟩ := hj 0 _ rfl
      obtain ⟨v1, y1, c1, t1⟩ := hj 1 _ rfl
      obtain ⟨v2, y2, c2, t2⟩ := hj 2 _ rfl
      obtain ⟨v3, y3, c3, t3⟩ := hj 3 _ rfl
      obtain ⟨v4, y4, c4, t4⟩ := hj 4 _ rfl
      obtain ⟨k0, rfl, -⟩ := int_of_trod t0
      obtain ⟨k1, rfl, -⟩ := int_of_trod t1
      obtain ⟨k2, rfl, -⟩ := int_of_trod t2
      obtain ⟨k3, rfl, -⟩ := int_of_trod t3
      obtain ⟨l, hl⟩ := rets_of_cell t4
      refine ⟨(⟨k0, k1, k2, k3, l⟩, v4), hl, fun k u hu => ?_⟩
      have hk2 : k < 5 := by have := (List.getElem?_eq_some_iff.1 hu).1; simpa [atRow] using this
      rcases (by omega : k = 0 ∨ k = 1 ∨ k = 2 ∨ k = 3 ∨ k = 4) with rfl | rfl | rfl | rfl | rfl
      all_goals
        simp [atRow] at hu
        subst hu
        assumption
    obtain ⟨ls, hlen, hP⟩ := exists_list len0 hall
    subst hlen
    have hspot : spot = none := by
      have := (hP 0 hpos).2 0 _ rfl
      simpa [Addr.add] using World.cell?_spot this
    subst hspot
    have hus : (ls.map (·.2)).length = (ls.map (·.1)).length := by simp
    refine ⟨ls.map (·.1), ls.map (·.2), hus, ⟨by rw [atCells_len _ _ hus], by simp; omega, some ⟨b, off, none⟩, cap0, by simp, by simp; omega, fun j u hu => ⟨b, off, rfl, ?_⟩⟩, fun i hi2 hi3 => ?_⟩
    · have hj : j < (ls.map (·.1)).length * 5 := by
        have := (List.getElem?_eq_some_iff.1 hu).1
        rw [atCells_len _ _ hus] at this
        exact this
      obtain ⟨i, k, rfl, hi2, hk2⟩ : ∃ i k, j = i * 5 + k ∧ i < (ls.map (·.1)).length ∧ k < 5 := ⟨j / 5, j % 5, by omega, by omega, by omega⟩
      rw [atCells_get _ _ hus i k hi2 hk2] at hu
      have hi4 : i < ls.length := by simpa using hi2
      have := (hP i hi4).2 k u (by simpa using hu)
      rw [show (⟨b, off, none⟩ : Addr).add (i * 5 + k) = ⟨b, off + (i * 5 + k), none⟩ from by unfold Addr.add; split <;> simp_all] at this
      exact this
    · have hi4 : i < ls.length := by simpa using hi2
      simpa using (hP i hi4).1

end
end Go.Proofs.Ytdhiefgbajogcaa
