/-
  What the walks say of memory: slices of spans (two cells each). No program in sight.
-/
import Derived.Test.YtkcmkpljpmfiaaaDoorMem
namespace Go.Proofs.YtkcmkpljpmfiaaaDoor
open Go.RowKit

/-- The cells of a span. -/
def spRow (x : Int × Int) : List Value := [.int .i64 x.1, .int .i64 x.2]
def spCells (l : List (Int × Int)) : List Value := (l.map spRow).flatten

theorem spRow_len (l : List (Int × Int)) : ∀ r ∈ l.map spRow, r.length = 2 := by
  intro r hr
  obtain ⟨x, -, rfl⟩ := List.mem_map.1 hr
  rfl
theorem spCells_len (l : List (Int × Int)) : (spCells l).length = l.length * 2 := by
  rw [spCells, flat_len 2 _ (spRow_len l), List.length_map]
theorem spCells_get (l : List (Int × Int)) (i k : Nat) (hi : i < l.length) (hk : k < 2) : (spCells l)[i * 2 + k]? = (spRow l[i])[k]? := by
  rw [spCells, flat_get 2 _ i k (by simpa using hi) (spRow_len l) hk, List.getElem_map]
theorem spCells_append (l m : List (Int × Int)) : spCells (l ++ m) = spCells l ++ spCells m := by simp [spCells]
theorem spCells_one (l : List (Int × Int)) : ∀ u ∈ spCells l, u.oneCell' = true := by
  intro u hu
  obtain ⟨r, hr, hur⟩ := List.mem_flatten.1 hu
  obtain ⟨x, -, rfl⟩ := List.mem_map.1 hr
  simp [spRow] at hur
  rcases hur with rfl | rfl <;> rfl
theorem spCells_set (l : List (Int × Int)) (i k : Nat) (hi : i < l.length) (hk : k < 2) (v : Value) (x : Int × Int) (hx : (spRow l[i]).set k v = spRow x) : (spCells l).set (i * 2 + k) v = spCells (l.set i x) := by
  rw [spCells, flat_set 2 v _ i k (by simpa using hi) (spRow_len l) hk, List.getElem_map, hx, ← List.map_set]
  rfl

/-- v is a slice of spans that reads as l. -/
def IsSps (w : World) (v : Value) (l : List (Int × Int)) : Prop := Rd w v 2 l.length (spCells l)

theorem IsSps.below {w w' : World} {v : Value} {l : List (Int × Int)} (h : IsSps w v l) (hb : Below w.heap.size w w') : IsSps w' v l := Rd.below h hb
theorem IsSps.nil (w : World) (a : Option Addr) (cap : Nat) : IsSps w (.slice a 0 cap) [] := Rd.nil w a 2 cap
theorem IsSps.of_owns {w : World} {B e n : Nat} {v : Value} {l : List (Int × Int)} (h : w.ownsRow B e 2 v n (spCells l)) : IsSps w v l := by
  have hn : n = l.length := by have := h.1; rw [spCells_len] at this; omega
  subst hn
  exact Rd.of_owns h

theorem IsSps.open {w : World} {v : Value} {l : List (Int × Int)} (h : IsSps w v l) :
    ∃ a cap, v = .slice a l.length cap ∧ l.length ≤ maxLen ∧ l.length ≤ cap ∧ ∀ i (hi : i < l.length), ∃ b off, a = some ⟨b, off, none⟩ ∧ b < w.heap.size ∧
      w.cell? ⟨b, off + i * 2, none⟩ = some (.int .i64 l[i].1) ∧ w.cell? ⟨b, off + i * 2 + 1, none⟩ = some (.int .i64 l[i].2) := by
  obtain ⟨h1, h2, a, cap, rfl, hn, hc⟩ := h
  refine ⟨a, cap, rfl, h2, hn, fun i hi => ?_⟩
  obtain ⟨b, off, rfl, c0⟩ := hc (i * 2 + 0) _ (by rw [spCells_get l i 0 hi (by omega)]; rfl)
  obtain ⟨_, _, e, c1⟩ := hc (i * 2 + 1) _ (by rw [spCells_get l i 1 hi (by omega)]; rfl)
  cases e
  exact ⟨b, off, rfl, World.block_lt_of_cell? _ _ c0, c0, c1⟩

theorem spans_lit (w : World) (l : List (Int × Int)) (e : Nat) (h : l.length ≤ 1000) : IsSps (w.alloc (.cells (spCells l).toArray e)) (.slice (some ⟨w.heap.size, 0, none⟩) l.length l.length) l := by
  have := Rd.lit w (spCells l).toArray e 2 l.length (by simp [spCells_len]) (by unfold maxLen; omega)
  exact this

end Go.Proofs.YtkcmkpljpmfiaaaDoor
