/-
  Small words of the walks over spans. (put together by wip/tools/assemble.py)
-/
import Derived.Test.YtbiedadgejgnoaaMp2
import Derived.Test.YtbiedadgejgnoaaProg
import Derived.WalkKit
import Derived.WalkSpells
import Derived.WalkLawsBesides
import Derived.Deep.QuietTactic
import Derived.BigQuiet
namespace Go.Proofs.Ytbiedadgejgnoaa
open Go.RowKit
theorem spCells_single (x : Int × Int) : spCells [x] = spRow x := by simp [spCells]

theorem infoSp : (Try.prog.info? 44).map (fun i => (i.zero, i.size, i.bytes)) = some (some (.agg #[.int .i64 0, .int .i64 0]), 2, 16) := by kernel_rfl

def litSp (x : Int × Int) : Array Value := #[.int .i64 x.1, .int .i64 x.2]

/-- A day that a contract may speak of. -/
def DayB (n : Int) : Prop := -1000000000000 ≤ n ∧ n ≤ 1000000000000

/-- One span of a slice of spans, as a walk reads it. -/
theorem IsSps.at {w : World} {v : Value} {l : List (Int × Int)} (h : IsSps w v l) {k : Nat} (hk : k < l.length) :
    ∃ b off cap, v = .slice (some ⟨b, off, none⟩) l.length cap ∧ b < w.heap.size ∧ w.cell? ⟨b, off + k * 2, none⟩ = some (.int .i64 l[k].1) ∧ w.cell? ⟨b, off + k * 2 + 1, none⟩ = some (.int .i64 l[k].2) := by
  obtain ⟨a, cap, rfl, -, -, hc⟩ := h.open
  obtain ⟨b, off, rfl, h1, c0, c1⟩ := hc k hk
  exact ⟨b, off, cap, rfl, h1, c0, c1⟩

theorem ret_bool {a b : Bool} (h : a = b) : Ending.returned (.bool a) = .returned (.bool b) := by rw [h]
theorem ret_int {k : IntKind} {a b : Int} (h : a = b) : Ending.returned (.int k a) = .returned (.int k b) := by rw [h]

end Go.Proofs.Ytbiedadgejgnoaa
