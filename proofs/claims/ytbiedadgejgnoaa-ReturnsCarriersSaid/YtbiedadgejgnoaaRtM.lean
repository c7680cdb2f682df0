/-
  What the walks say of memory: slices of returns (four cells each). No program in sight.
-/
import Derived.Test.YtbiedadgejgnoaaSpn
import Derived.Test.YtbiedadgejgnoaaRtP
namespace Go.Proofs.Ytbiedadgejgnoaa
open Go.RowKit

/-- The cells of a return. -/
def rtRow (x : Ret) : List Value := [.int .i64 x.car, .int .i64 x.kind, .int .i64 x.fr, .int .i64 x.un]
def rtCells (l : List Ret) : List Value := (l.map rtRow).flatten
def litRt (x : Ret) : Array Value := #[.int .i64 x.car, .int .i64 x.kind, .int .i64 x.fr, .int .i64 x.un]

theorem rtRow_len (l : List Ret) : ∀ r ∈ l.map rtRow, r.length = 4 := by
  intro r hr
  obtain ⟨x, -, rfl⟩ := List.mem_map.1 hr
  rfl
theorem rtCells_len (l : List Ret) : (rtCells l).length = l.length * 4 := by
  rw [rtCells, flat_len 4 _ (rtRow_len l), List.length_map]
theorem rtCells_get (l : List Ret) (i k : Nat) (hi : i < l.length) (hk : k < 4) : (rtCells l)[i * 4 + k]? = (rtRow l[i])[k]? := by
  rw [rtCells, flat_get 4 _ i k (by simpa using hi) (rtRow_len l) hk, List.getElem_map]
theorem rtCells_append (l m : List Ret) : rtCells (l ++ m) = rtCells l ++ rtCells m := by simp [rtCells]
theorem rtCells_single (x : Ret) : rtCells [x] = rtRow x := by simp [rtCells]
theorem rtCells_one (l : List Ret) : ∀ u ∈ rtCells l, u.oneCell' = true := by
  intro u hu
  obtain ⟨r, hr, hur⟩ := List.mem_flatten.1 hu
  obtain ⟨x, -, rfl⟩ := List.mem_map.1 hr
  simp [rtRow] at hur
  rcases hur with rfl | rfl | rfl | rfl <;> rfl
theorem rtCells_set (l : List Ret) (i k : Nat) (hi : i < l.length) (hk : k < 4) (v : Value) (x : Ret) (hx : (rtRow l[i]).set k v = rtRow x) : (rtCells l).set (i * 4 + k) v = rtCells (l.set i x) := by
  rw [rtCells, flat_set 4 v _ i k (by simpa using hi) (rtRow_len l) hk, List.getElem_map, hx, ← List.map_set]
  rfl

/-- v is a slice of returns that reads as l. -/
def IsRts (w : World) (v : Value) (l : List Ret) : Prop := Rd w v 4 l.length (rtCells l)

theorem IsRts.below {w w' : World} {v : Value} {l : List Ret} (h : IsRts w v l) (hb : Below w.heap.size w w') : IsRts w' v l := Rd.below h hb
theorem IsRts.nil (w : World) (a : Option Addr) (cap : Nat) : IsRts w (.slice a 0 cap) [] := Rd.nil w a 4 cap
theorem IsRts.of_owns {w : World} {B e n : Nat} {v : Value} {l : List Ret} (h : w.ownsRow B e 4 v n (rtCells l)) : IsRts w v l := by
  have hn : n = l.length := by have := h.1; rw [rtCells_len] at this; omega
  subst hn
  exact Rd.of_owns h

theorem IsRts.open {w : World} {v : Value} {l : List Ret} (h : IsRts w v l) : ∃ a cap, v = .slice a l.length cap ∧ l.length ≤ maxLen ∧ l.length ≤ cap := by
  obtain ⟨h1, h2, a, cap, rfl, hn, hc⟩ := h
  exact ⟨a, cap, rfl, h2, hn⟩

/-- One return of a slice of returns, as a walk reads it. -/
theorem IsRts.at {w : World} {v : Value} {l : List Ret} (h : IsRts w v l) {k : Nat} (hk : k < l.length) :
    ∃ b off cap, v = .slice (some ⟨b, off, none⟩) l.length cap ∧ b < w.heap.size ∧ w.cell? ⟨b, off + k * 4, none⟩ = some (.int .i64 l[k].car) ∧ w.cell? ⟨b, off + k * 4 + 1, none⟩ = some (.int .i64 l[k].kind) ∧
      w.cell? ⟨b, off + k * 4 + 2, none⟩ = some (.int .i64 l[k].fr) ∧ w.cell? ⟨b, off + k * 4 + 3, none⟩ = some (.int .i64 l[k].un) := by
  obtain ⟨h1, h2, a, cap, rfl, hn, hc⟩ := h
  obtain ⟨b, off, rfl, c0⟩ := hc (k * 4 + 0) _ (by rw [rtCells_get l k 0 hk (by omega)]; rfl)
  obtain ⟨_, _, e, c1⟩ := hc (k * 4 + 1) _ (by rw [rtCells_get l k 1 hk (by omega)]; rfl)
  cases e
  obtain ⟨_, _, e, c2⟩ := hc (k * 4 + 2) _ (by rw [rtCells_get l k 2 hk (by omega)]; rfl)
  cases e
  obtain ⟨_, _, e, c3⟩ := hc (k * 4 + 3) _ (by rw [rtCells_get l k 3 hk (by omega)]; rfl)
  cases e
  exact ⟨b, off, cap, rfl, World.block_lt_of_cell? _ _ c0, c0, c1, c2, c3⟩

theorem rets_lit (w : World) (l : List Ret) (e : Nat) (h : l.length ≤ 1000) : IsRts (w.alloc (.cells (rtCells l).toArray e)) (.slice (some ⟨w.heap.size, 0, none⟩) l.length l.length) l := by
  have := Rd.lit w (rtCells l).toArray e 4 l.length (by simp [rtCells_len]) (by unfold maxLen; omega)
  exact this

end Go.Proofs.Ytbiedadgejgnoaa
