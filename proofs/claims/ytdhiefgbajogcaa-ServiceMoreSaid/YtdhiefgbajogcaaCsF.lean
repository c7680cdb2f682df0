/-
  Arguments that are a case, an attempt or a slice of attempts, as the walks read them.
-/
import Derived.Test.YtdhiefgbajogcaaRtF
import Derived.Test.YtdhiefgbajogcaaAt
namespace Go.Proofs.Ytdhiefgbajogcaa
open Go.RowKit Go.ChangeShapes Go.WideShapes Go.Deep

section
variable {H : Type} {enc : TypeId × Value → H} {P : Program} {w : World} {base : Nat} {spare : Nat → Bool} {held : Bool}

/-- A struct whose fields are one cell each. -/
theorem agg_of_trod {r : Reach} {b0 : Nat} {t : TypeId} {fs : Array Field} {v : Value} {d : DataW H} {p : List MemPlace} (hs : P.underlying t = some (.struct fs)) (hone : oneCellFields P fs = true) (hC : P.cellsOf t = fs.size)
    (hv : Value.okWide P w r b0 t v) (h : DataW.Trod enc P w base spare held t v d p) :
    ∃ (cs : Array Value) (n : Nat), v = .agg cs ∧ cs.size = fs.size ∧ ∀ (j : Nat) (f : Field), fs[j]? = some f → ∃ (u : Value) (y : DataW H × List MemPlace), cs[j]? = some u ∧ DataW.trod enc P w base spare held n f.type [u] = some y := by
  obtain ⟨cs, rfl, hsz⟩ := okWide_struct hs hv
  obtain ⟨fuel, hf⟩ := h
  obtain ⟨ys, n', hn', hy, hlen, hyl, hff⟩ := DataW.trod_struct hs hf
  have hsz' : cs.size = fs.size := hsz.trans hC
  refine ⟨cs, n', rfl, hsz', fun j f hj => ?_⟩
  obtain ⟨ho, hk⟩ := hone_of hone j f hj
  have hjl : j < fs.size := (Array.getElem?_eq_some_iff.1 hj).1
  have h1 := hff j f hj
  rw [ho, hk] at h1
  have hcl : (Value.cells (.agg cs)) = cs := rfl
  rw [hcl] at h1
  have hl : cs.toList.length = fs.size := by simpa using hsz'
  have hone' : (cs.toList.drop j).take 1 = [cs.toList[j]'(by omega)] := by
    rw [List.drop_eq_getElem_cons (by omega)]
    rfl
  rw [hone'] at h1
  have hys : ys[j]? = some (ys[j]'(by omega)) := List.getElem?_eq_getElem (by omega)
  exact ⟨_, _, by rw [← Array.getElem?_toList]; exact List.getElem?_eq_getElem (by omega), h1.trans hys⟩
end

section
variable {H : Type} {enc : TypeId × Value → H} {w : World} {base : Nat} {spare : Nat → Bool} {held : Bool}

theorem ints_of_cell {n : Nat} {v : Value} {y : DataW H × List MemPlace} (h : DataW.trod enc Try.prog w base (fun _ => true) held n 23 [v] = some y) : ∃ l, IsInts w v l ∧ ∀ x ∈ l, I64 x := by
  rcases open_ints Try.underlying23 Try.underlying3 (by kernel_rfl) h with ⟨hcs, _⟩ | ⟨x, l, c, zs, hcs, _, hl, hm, hz, _, hcell, hwz⟩
  · simp only [List.cons.injEq, and_true] at hcs
    subst hcs
    exact isInts_of_row (.inl ⟨rfl, rfl, rfl, rfl⟩)
  · simp only [List.cons.injEq, and_true] at hcs
    subst hcs
    exact isInts_of_row (.inr ⟨_, rfl, hl, hm, by simpa using hz, hcell, hwz⟩)

set_option maxRecDepth 100000 in
theorem case_of_trod {v : Value} {d : DataW H} {p : List MemPlace} {r : Reach} {b0 : Nat} (hval : Value.okWide Try.prog w r b0 35 v) (h : DataW.Trod enc Try.prog w base (fun _ => true) held 35 v d p) :
    ∃ (x u : Value) (en pa : Int) (xs ys : List Int), v = .agg #[x, u, .int .i64 en, .int .i64 pa] ∧ IsInts w x xs ∧ (∀ x ∈ xs, I64 x) ∧ IsInts w u ys ∧ (∀ x ∈ ys, I64 x) ∧ I64 en ∧ I64 pa := by
  obtain ⟨v0, v1, v2, v3, y0, y1, y2, y3, n, rfl, -, -, t0, t1, t2, t3⟩ := Joins.open_agg4 Try.underlying35 (by kernel_rfl) (by kernel_rfl) hval h
  obtain ⟨xs, a1, a2⟩ := ints_of_cell t0
  obtain ⟨ys, b1, b2⟩ := ints_of_cell t1
  obtain ⟨k2, rfl, h2⟩ := int_of_trod t2
  obtain ⟨k3, rfl, h3⟩ := int_of_trod t3
  exact ⟨_, _, k2, k3, xs, ys, rfl, a1, a2, b1, b2, h2, h3⟩

end
end Go.Proofs.Ytdhiefgbajogcaa
