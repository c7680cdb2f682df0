/-
  Small words of the walks over spans. (put together by wip/tools/assemble.py)
  Around. (put together by wip/tools/assemble.py)
-/
import Derived.Test.YtdhiefgbajogcaaMp2
import Derived.Test.YtdhiefgbajogcaaProg
import Derived.WalkKit
import Derived.WalkSpells
import Derived.WalkLawsBesides
import Derived.Deep.QuietTactic
import Derived.BigQuiet
namespace Go.Proofs.Ytdhiefgbajogcaa
open Go.RowKit
theorem spCells_single (x : Int × Int) : spCells [x] = spRow x := by simp [spCells]

theorem infoSp : (Try.prog.info? 86).map (fun i => (i.zero, i.size, i.bytes)) = some (some (.agg #[.int .i64 0, .int .i64 0]), 2, 16) := by kernel_rfl

def litSp (x : Int × Int) : Array Value := #[.int .i64 x.1, .int .i64 x.2]

/-- A day that a contract may speak of. -/
def DayB (n : Int) : Prop := -1000000000000 ≤ n ∧ n ≤ 1000000000000

/-- One span of a slice of spans, as a walk reads it. -/
theorem IsSps.at {w : World} {v : Value} {l : List (Int × Int)} (h : IsSps w v l) {k : Nat} (hk : k < l.length) :
    ∃ b off cap, v = .slice (some ⟨b, off, none⟩) l.length cap ∧ b < w.heap.size ∧ w.cell? ⟨b, off + k * 2, none⟩ = some (.int .i64 l[k].1) ∧ w.cell? ⟨b, off + k * 2 + 1, none⟩ = some (.int .i64 l[k].2) := by
  obtain ⟨a, cap, rfl, -, -, hc⟩ := h.open
  obtain ⟨b, off, rfl, h1, c0, c1⟩ := hc k hk
  exact ⟨b, off, cap, rfl, h1, c0, c1⟩

theorem ret_bool {a b : Bool} (h : a = b) : Ending.returned (.bool a) = .returned (.bool b) := by rw [h]
theorem ret_int {k : IntKind} {a b : Int} (h : a = b) : Ending.returned (.int k a) = .returned (.int k b) := by rw [h]

end Go.Proofs.Ytdhiefgbajogcaa

namespace Go.Proofs.Ytdhiefgbajogcaa
open Go.RowKit
def around (n most : Int) : Int := (if n < 0 then -(n + 1) else n) % most

theorem around_neg (n most : Int) (h : n < 0) : -((n + 1).tmod most) = around n most := by
  unfold around; rw [if_pos h, ← Int.neg_tmod, Int.tmod_eq_emod_of_nonneg (by omega)]
theorem around_pos (n most : Int) (h : ¬ n < 0) : n % most = around n most := by
  unfold around; rw [if_neg h]
theorem around_lo (n most : Int) (h : 1 ≤ most) : 0 ≤ around n most := Int.emod_nonneg _ (by omega)
theorem around_hi (n most : Int) (h : 1 ≤ most) : around n most < most := Int.emod_lt_of_pos _ (by omega)

set_option maxHeartbeats 400000 in
theorem around_any (n most : Int) (hn : I64 n) (h1 : 1 ≤ most) (w : World) :
    Calls Try.prog 63 #[.int .i64 n, .int .i64 most] w fun e w' => e = .returned (.int .i64 (around n most)) ∧ w = w' := by
  unfold I64 at hn
  obtain ⟨hn1, hn2⟩ := hn
  have hz : (most == 0) = false := by simp; omega
  by_cases h0 : n < 0
  · go_enter Try.func63, Try.ntmps63
    go_wp2
    go_ret
    exact ⟨ret_int (around_neg _ _ h0), rfl⟩
  · go_enter Try.func63, Try.ntmps63
    go_wp2
    go_ret
    exact ⟨ret_int (around_pos _ _ (by omega)), rfl⟩


theorem around_nat {n : Int} {m : Nat} (h : 1 ≤ m) : ∃ k : Nat, around n m = k ∧ k < m := by
  have h1 := around_lo n m (by omega)
  have h2 := around_hi n m (by omega)
  exact ⟨(around n m).toNat, by omega, by omega⟩


end Go.Proofs.Ytdhiefgbajogcaa
