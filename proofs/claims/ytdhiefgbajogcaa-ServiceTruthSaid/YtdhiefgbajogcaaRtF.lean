/-
  Arguments that are slices of returns, or a return, as the walks read them.
-/
import Derived.Test.YtdhiefgbajogcaaRtM
import Derived.Test.YtdhiefgbajogcaaRow
import Derived.Test.YtdhiefgbajogcaaProg
import Derived.OpenShut
import Derived.Deep.Slices
import Derived.Deep.Fields
import Derived.ChangeSame
import Derived.ProofKit
import Derived.Lib.SmallJoins
namespace Go.Proofs.Ytdhiefgbajogcaa
open Go.RowKit Go.ChangeShapes Go.WideShapes Go.Deep

theorem exists_list {α : Type} {P : Nat → α → Prop} : ∀ n : Nat, (∀ i, i < n → ∃ x, P i x) → ∃ xs : List α, xs.length = n ∧ ∀ i (h : i < xs.length), P i xs[i]
  | 0, _ => ⟨[], rfl, fun i h => absurd h (Nat.not_lt_zero _)⟩
  | n + 1, h => by
    obtain ⟨xs, hl, hx⟩ := exists_list n (fun i hi => h i (by omega))
    obtain ⟨x, hp⟩ := h n (by omega)
    refine ⟨xs ++ [x], by simp [hl], fun i hi => ?_⟩
    by_cases e : i < xs.length
    · rw [List.getElem_append_left e]; exact hx i e
    · have e2 : i = n := by simp [hl] at hi; omega
      subst e2
      rw [List.getElem_append_right (by omega)]
      simp [hl]
      exact hp

section
variable {H : Type} {enc : TypeId × Value → H} {P : Program} {w : World} {base : Nat} {spare : Nat → Bool} {held : Bool}

/-- A slice of structs whose fields are one cell each: each field of each element, as a cell and its reading. -/
theorem fields_of_trod {t e : TypeId} {fs : Array Field} {fuel : Nat} {cs : List Value} {x : DataW H × List MemPlace} (ht : P.underlying t = some (.slice e)) (he : P.underlying e = some (.struct fs))
    (hone : oneCellFields P fs = true) (hC : P.cellsOf e = fs.size) (h : DataW.trod enc P w base spare held fuel t cs = some x) :
    cs = [.slice none 0 0] ∨
    ∃ (a : Addr) (len cap : Nat), cs = [.slice (some a) len cap] ∧ len ≤ cap ∧ cap ≤ maxLen ∧
      ∀ i, i < len → ∃ (n : Nat), ∀ (j : Nat) (f : Field), fs[j]? = some f → ∃ (v : Value) (y : DataW H × List MemPlace), w.cell? (a.add (i * fs.size + j)) = some v ∧ DataW.trod enc P w base spare held n f.type [v] = some y := by
  rcases open_slice ht h with h0 | ⟨a, len, cap, m, n, D, Pl, hcs, hb, hl, hm, hmm, hx, hi⟩
  · exact .inl h0.1
  · refine .inr ⟨a, len, cap, hcs, hl, hm, fun i hil => ?_⟩
    have him : i < m := by rw [hmm]; split <;> omega
    obtain ⟨cs', hc, ht'⟩ := hi i him
    rw [hC] at hc
    obtain ⟨ys, n', hn', hy, hlen, hyl, hf⟩ := DataW.trod_struct he ht'
    obtain ⟨_, hcl, hat⟩ := World.cells?_some hc
    refine ⟨n', fun j f hj => ?_⟩
    obtain ⟨ho, hk⟩ := hone_of hone j f hj
    have hjl : j < fs.size := (Array.getElem?_eq_some_iff.1 hj).1
    have hcell := hat j hjl
    have hv : cs'[j]? = some (cs'[j]'(by omega)) := List.getElem?_eq_getElem (by omega)
    have h1 := hf j f hj
    rw [ho, hk] at h1
    have hone' : (cs'.drop j).take 1 = [cs'[j]'(by omega)] := by
      rw [List.drop_eq_getElem_cons (by omega)]
      rfl
    rw [hone'] at h1
    have hys : ys[j]? = some (ys[j]'(by omega)) := List.getElem?_eq_getElem (by omega)
    refine ⟨_, _, ?_, h1.trans hys⟩
    rw [← Go.Deep.add_add, hcell, hv]
end

section
variable {H : Type} {enc : TypeId × Value → H} {w : World} {base : Nat} {spare : Nat → Bool} {held : Bool}

theorem int_of_trod {n : Nat} {v : Value} {y : DataW H × List MemPlace} (h : DataW.trod enc Try.prog w base spare held n 3 [v] = some y) : ∃ k, v = .int .i64 k ∧ I64 k := by
  obtain ⟨k, hk, -, hw⟩ := DataW.trod_int Try.underlying3 h
  simp only [List.cons.injEq, and_true] at hk
  exact ⟨k, hk, i64_of_wf hw⟩

set_option maxRecDepth 100000 in
theorem rets_of_trod {v : Value} {d : DataW H} {p : List MemPlace} {r : Reach} {b0 : Nat} (hval : Value.okWide Try.prog w r b0 27 v) (h : DataW.Trod enc Try.prog w base spare held 27 v d p) :
    ∃ l, IsRts w v l := by
  obtain ⟨a0, len0, cap0, rfl⟩ := okWide_slice Try.underlying27 hval
  obtain ⟨fuel, hf⟩ := h
  rcases fields_of_trod Try.underlying27 Try.underlying37 (by kernel_rfl) (by kernel_rfl) hf with hcs | ⟨a, len, cap, hcs, hl, hm, hi⟩
  · simp [Value.cells] at hcs
    obtain ⟨rfl, rfl, rfl⟩ := hcs
    exact ⟨[], IsRts.nil _ _ _⟩
  · simp [Value.cells] at hcs
    obtain ⟨rfl, rfl, rfl⟩ := hcs
    rcases Nat.eq_zero_or_pos len0 with rfl | hpos
    · exact ⟨[], IsRts.nil _ _ _⟩
    obtain ⟨b, off, spot⟩ := a
    have hall : ∀ i, i < len0 → ∃ x : Ret, ∀ k u, (rtRow x)[k]? = some u → w.cell? ((⟨b, off, spot⟩ : Addr).add (i * 4 + k)) = some u := by
      intro i hil
      obtain ⟨n, hj⟩ := hi i hil
      obtain ⟨v0, y0, c0, t0⟩ := hj 0 _ rfl
      obtain ⟨v1, y1, c1, t1⟩ := hj 1 _ rfl
      obtain ⟨v2, y2, c2, t2⟩ := hj 2 _ rfl
      obtain ⟨v3, y3, c3, t3⟩ := hj 3 _ rfl
      obtain ⟨k0, rfl, -⟩ := int_of_trod t0
      obtain ⟨k1, rfl, -⟩ := int_of_trod t1
      obtain ⟨k2, rfl, -⟩ := int_of_trod t2
      obtain ⟨k3, rfl, -⟩ := int_of_trod t3
      refine ⟨⟨k0, k1, k2, k3⟩, fun k u hu => ?_⟩
      have hk2 : k < 4 := by have := (List.getElem?_eq_some_iff.1 hu).1; simpa [rtRow] using this
      rcases (by omega : k = 0 ∨ k = 1 ∨ k = 2 ∨ k = 3) with rfl | rfl | rfl | rfl
      all_goals
        simp [rtRow] at hu
        subst hu
        assumption
    obtain ⟨ls, hlen, hP⟩ := exists_list len0 hall
    subst hlen
    have hspot : spot = none := by
      have := hP 0 hpos 0 _ rfl
      simpa [Addr.add] using World.cell?_spot this
    subst hspot
    refine ⟨ls, by rw [rtCells_len], by omega, some ⟨b, off, none⟩, cap0, rfl, by omega, fun j u hu => ⟨b, off, rfl, ?_⟩⟩
    have hj : j < ls.length * 4 := by
      have := (List.getElem?_eq_some_iff.1 hu).1
      rw [rtCells_len] at this
      exact this
    obtain ⟨i, k, rfl, hi2, hk2⟩ : ∃ i k, j = i * 4 + k ∧ i < ls.length ∧ k < 4 := ⟨j / 4, j % 4, by omega, by omega, by omega⟩
    rw [rtCells_get _ i k hi2 hk2] at hu
    have := hP i hi2 k u hu
    rw [show (⟨b, off, none⟩ : Addr).add (i * 4 + k) = ⟨b, off + (i * 4 + k), none⟩ from by unfold Addr.add; split <;> simp_all] at this
    exact this

set_option maxRecDepth 100000 in
theorem ret_of_trod {v : Value} {d : DataW H} {p : List MemPlace} {r : Reach} {b0 : Nat} (hval : Value.okWide Try.prog w r b0 37 v) (h : DataW.Trod enc Try.prog w base spare held 37 v d p) :
    ∃ a b c e : Int, v = .agg #[.int .i64 a, .int .i64 b, .int .i64 c, .int .i64 e] ∧ I64 a ∧ I64 b ∧ I64 c ∧ I64 e := by
  obtain ⟨v0, v1, v2, v3, y0, y1, y2, y3, n, rfl, -, -, t0, t1, t2, t3⟩ := Joins.open_agg4 Try.underlying37 (by kernel_rfl) (by kernel_rfl) hval h
  obtain ⟨k0, rfl, h0⟩ := int_of_trod t0
  obtain ⟨k1, rfl, h1⟩ := int_of_trod t1
  obtain ⟨k2, rfl, h2⟩ := int_of_trod t2
  obtain ⟨k3, rfl, h3⟩ := int_of_trod t3
  exact ⟨k0, k1, k2, k3, rfl, h0, h1, h2, h3⟩

end

end Go.Proofs.Ytdhiefgbajogcaa
