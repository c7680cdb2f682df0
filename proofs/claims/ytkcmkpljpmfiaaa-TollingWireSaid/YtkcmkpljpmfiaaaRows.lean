/-
  No cell of these rows narrows 'for every input' (looked for: loops, veiled, ifaces, maps, wideKeys, modest, calm, conditions, laid).
  DERIVED. THE GIVEN ROWS OF THIS SEAT. 9 by the template 'for every input the law returns true; each argument reads behind the call as it read before'; 0 by the template 'total and deterministic' (their statements: YtkcmkpljpmfiaaaTotals.lean).
  GIVEN WITH THE SEED: the statements are not yours to turn. If you find one false, say at which input.
  Laid BY PROGRAM, IN A SANDBOX (cutbox-rows.mjs): the forced cells as the released guide's own fill.sh prints them over the translation 3e83227fc6bffbbb… (all of the seat's roots in one cut). By AI agents, Wed Nov 11 2026. No macro, syntax, notation, axiom, sorry.
-/
import Derived.Test.YtkcmkpljpmfiaaaChecked
import GoSem.Claim
import GoSem.ClaimJoined
import GoSem.ClaimMapViews
import Derived.JoinedTies
import Derived.KernelRfl
namespace Go.Proofs.Ytkcmkpljpmfiaaa
/- THE CELL 'sum', in the pinned program and in every row, IS THE sha256 OF THE DUMP (.gsa) THAT YtkcmkpljpmfiaaaProg.lean LOADS. Nothing in Lean hashes anything: it is a label: what it is worth is what the hold of that sum in a sandbox is worth. -/
noncomputable def Try.pinned : Pinned := { name := "ytkcmkpljpmfiaaa", sum := "3e83227fc6bffbbbf6c0ccd2920a5622ea4df06bc2dc7cfaa8598adabb5f6440", checked := Try.checked }
namespace Rows
def none {H : Type} : Left H := { results := [], args := [] }

/-- 'rollbooklaw17.TollingMerges': WHATEVER THE INPUT: true; the input reads as it did. -/
def tollingMergesSpec : ChangeSpec := { name := "tollingMerges", fn := fun _ => fun
  | [d1, d2, d3, d4, d5] => { results := [.lit (.bool true)], args := [d1, d2, d3, d4, d5] }
  | _ => none }
def tollingMergesRow : OpenClaim := { program := "ytkcmkpljpmfiaaa", sum := "3e83227fc6bffbbbf6c0ccd2920a5622ea4df06bc2dc7cfaa8598adabb5f6440", func := "rollbook/rollbooklaw17.TollingMerges", spec := "tollingMerges", unfollowed := true, recurses := true, apart := false }
def TollingMergesSaid : Prop := tollingMergesRow.holds Try.pinned (OpenSpec.ofChange tollingMergesSpec)

/-- ITS FALSE NEIGHBOUR: 'it returns false'. Refute it at one input. -/
def tollingMergesWrong : ChangeSpec := { name := "tollingMerges", fn := fun _ => fun
  | [d1, d2, d3, d4, d5] => { results := [.lit (.bool false)], args := [d1, d2, d3, d4, d5] }
  | _ => none }
def TollingMergesWrongFalsely : Prop := tollingMergesRow.holds Try.pinned (OpenSpec.ofChange tollingMergesWrong)

/-- 'rollbooklaw17.TollingExtends': WHATEVER THE INPUT: true; the input reads as it did. -/
def tollingExtendsSpec : ChangeSpec := { name := "tollingExtends", fn := fun _ => fun
  | [d1, d2, d3, d4, d5] => { results := [.lit (.bool true)], args := [d1, d2, d3, d4, d5] }
  | _ => none }
def tollingExtendsRow : OpenClaim := { program := "ytkcmkpljpmfiaaa", sum := "3e83227fc6bffbbbf6c0ccd2920a5622ea4df06bc2dc7cfaa8598adabb5f6440", func := "rollbook/rollbooklaw17.TollingExtends", spec := "tollingExtends", unfollowed := true, recurses := true, apart := false }
def TollingExtendsSaid : Prop := tollingExtendsRow.holds Try.pinned (OpenSpec.ofChange tollingExtendsSpec)

/-- ITS FALSE NEIGHBOUR: 'it returns false'. Refute it at one input. -/
def tollingExtendsWrong : ChangeSpec := { name := "tollingExtends", fn := fun _ => fun
  | [d1, d2, d3, d4, d5] => { results := [.lit (.bool false)], args := [d1, d2, d3, d4, d5] }
  | _ => none }
def TollingExtendsWrongFalsely : Prop := tollingExtendsRow.holds Try.pinned (OpenSpec.ofChange tollingExtendsWrong)

/-- 'rollbooklaw17.TollingCounts': WHATEVER THE INPUT: true; the input reads as it did. -/
def tollingCountsSpec : ChangeSpec := { name := "tollingCounts", fn := fun _ => fun
  | [d1, d2, d3, d4] => { results := [.lit (.bool true)], args := [d1, d2, d3, d4] }
  | _ => none }
def tollingCountsRow : OpenClaim := { program := "ytkcmkpljpmfiaaa", sum := "3e83227fc6bffbbbf6c0ccd2920a5622ea4df06bc2dc7cfaa8598adabb5f6440", func := "rollbook/rollbooklaw17.TollingCounts", spec := "tollingCounts", unfollowed := true, recurses := true, apart := false }
def TollingCountsSaid : Prop := tollingCountsRow.holds Try.pinned (OpenSpec.ofChange tollingCountsSpec)

/-- ITS FALSE NEIGHBOUR: 'it returns false'. Refute it at one input. -/
def tollingCountsWrong : ChangeSpec := { name := "tollingCounts", fn := fun _ => fun
  | [d1, d2, d3, d4] => { results := [.lit (.bool false)], args := [d1, d2, d3, d4] }
  | _ => none }
def TollingCountsWrongFalsely : Prop := tollingCountsRow.holds Try.pinned (OpenSpec.ofChange tollingCountsWrong)

/-- 'rollbooklaw17.TollingOrders': WHATEVER THE INPUT: true; the input reads as it did. -/
def tollingOrdersSpec : ChangeSpec := { name := "tollingOrders", fn := fun _ => fun
  | [d1, d2, d3, d4, d5, d6] => { results := [.lit (.bool true)], args := [d1, d2, d3, d4, d5, d6] }
  | _ => none }
def tollingOrdersRow : OpenClaim := { program := "ytkcmkpljpmfiaaa", sum := "3e83227fc6bffbbbf6c0ccd2920a5622ea4df06bc2dc7cfaa8598adabb5f6440", func := "rollbook/rollbooklaw17.TollingOrders", spec := "tollingOrders", unfollowed := true, recurses := true, apart := false }
def TollingOrdersSaid : Prop := tollingOrdersRow.holds Try.pinned (OpenSpec.ofChange tollingOrdersSpec)

/-- ITS FALSE NEIGHBOUR: 'it returns false'. Refute it at one input. -/
def tollingOrdersWrong : ChangeSpec := { name := "tollingOrders", fn := fun _ => fun
  | [d1, d2, d3, d4, d5, d6] => { results := [.lit (.bool false)], args := [d1, d2, d3, d4, d5, d6] }
  | _ => none }
def TollingOrdersWrongFalsely : Prop := tollingOrdersRow.holds Try.pinned (OpenSpec.ofChange tollingOrdersWrong)

/-- 'rollbooklaw17.TollingGrows': WHATEVER THE INPUT: true; the input reads as it did. -/
def tollingGrowsSpec : ChangeSpec := { name := "tollingGrows", fn := fun _ => fun
  | [d1, d2, d3, d4, d5] => { results := [.lit (.bool true)], args := [d1, d2, d3, d4, d5] }
  | _ => none }
def tollingGrowsRow : OpenClaim := { program := "ytkcmkpljpmfiaaa", sum := "3e83227fc6bffbbbf6c0ccd2920a5622ea4df06bc2dc7cfaa8598adabb5f6440", func := "rollbook/rollbooklaw17.TollingGrows", spec := "tollingGrows", unfollowed := true, recurses := true, apart := false }
def TollingGrowsSaid : Prop := tollingGrowsRow.holds Try.pinned (OpenSpec.ofChange tollingGrowsSpec)

/-- ITS FALSE NEIGHBOUR: 'it returns false'. Refute it at one input. -/
def tollingGrowsWrong : ChangeSpec := { name := "tollingGrows", fn := fun _ => fun
  | [d1, d2, d3, d4, d5] => { results := [.lit (.bool false)], args := [d1, d2, d3, d4, d5] }
  | _ => none }
def TollingGrowsWrongFalsely : Prop := tollingGrowsRow.holds Try.pinned (OpenSpec.ofChange tollingGrowsWrong)

/-- 'rollbooklaw17.TollingParts': WHATEVER THE INPUT: true; the input reads as it did. -/
def tollingPartsSpec : ChangeSpec := { name := "tollingParts", fn := fun _ => fun
  | [d1, d2, d3, d4, d5] => { results := [.lit (.bool true)], args := [d1, d2, d3, d4, d5] }
  | _ => none }
def tollingPartsRow : OpenClaim := { program := "ytkcmkpljpmfiaaa", sum := "3e83227fc6bffbbbf6c0ccd2920a5622ea4df06bc2dc7cfaa8598adabb5f6440", func := "rollbook/rollbooklaw17.TollingParts", spec := "tollingParts", unfollowed := true, recurses := true, apart := false }
def TollingPartsSaid : Prop := tollingPartsRow.holds Try.pinned (OpenSpec.ofChange tollingPartsSpec)

/-- ITS FALSE NEIGHBOUR: 'it returns false'. Refute it at one input. -/
def tollingPartsWrong : ChangeSpec := { name := "tollingParts", fn := fun _ => fun
  | [d1, d2, d3, d4, d5] => { results := [.lit (.bool false)], args := [d1, d2, d3, d4, d5] }
  | _ => none }
def TollingPartsWrongFalsely : Prop := tollingPartsRow.holds Try.pinned (OpenSpec.ofChange tollingPartsWrong)

/-- 'rollbooklaw17.TollingMoves': WHATEVER THE INPUT: true; the input reads as it did. -/
def tollingMovesSpec : ChangeSpec := { name := "tollingMoves", fn := fun _ => fun
  | [d1, d2, d3, d4, d5] => { results := [.lit (.bool true)], args := [d1, d2, d3, d4, d5] }
  | _ => none }
def tollingMovesRow : OpenClaim := { program := "ytkcmkpljpmfiaaa", sum := "3e83227fc6bffbbbf6c0ccd2920a5622ea4df06bc2dc7cfaa8598adabb5f6440", func := "rollbook/rollbooklaw17.TollingMoves", spec := "tollingMoves", unfollowed := true, recurses := true, apart := false }
def TollingMovesSaid : Prop := tollingMovesRow.holds Try.pinned (OpenSpec.ofChange tollingMovesSpec)

/-- ITS FALSE NEIGHBOUR: 'it returns false'. Refute it at one input. -/
def tollingMovesWrong : ChangeSpec := { name := "tollingMoves", fn := fun _ => fun
  | [d1, d2, d3, d4, d5] => { results := [.lit (.bool false)], args := [d1, d2, d3, d4, d5] }
  | _ => none }
def TollingMovesWrongFalsely : Prop := tollingMovesRow.holds Try.pinned (OpenSpec.ofChange tollingMovesWrong)

/-- 'rollbooklaw17.TollingChecks': WHATEVER THE INPUT: true; the input reads as it did. -/
def tollingChecksSpec : ChangeSpec := { name := "tollingChecks", fn := fun _ => fun
  | [d1, d2, d3] => { results := [.lit (.bool true)], args := [d1, d2, d3] }
  | _ => none }
def tollingChecksRow : OpenClaim := { program := "ytkcmkpljpmfiaaa", sum := "3e83227fc6bffbbbf6c0ccd2920a5622ea4df06bc2dc7cfaa8598adabb5f6440", func := "rollbook/rollbooklaw17.TollingChecks", spec := "tollingChecks", unfollowed := true, recurses := true, apart := false }
def TollingChecksSaid : Prop := tollingChecksRow.holds Try.pinned (OpenSpec.ofChange tollingChecksSpec)

/-- ITS FALSE NEIGHBOUR: 'it returns false'. Refute it at one input. -/
def tollingChecksWrong : ChangeSpec := { name := "tollingChecks", fn := fun _ => fun
  | [d1, d2, d3] => { results := [.lit (.bool false)], args := [d1, d2, d3] }
  | _ => none }
def TollingChecksWrongFalsely : Prop := tollingChecksRow.holds Try.pinned (OpenSpec.ofChange tollingChecksWrong)

/-- 'rollbooklaw17.TollingWire': WHATEVER THE INPUT: true; the input reads as it did. -/
def tollingWireSpec : ChangeSpec := { name := "tollingWire", fn := fun _ => fun
  | [d1, d2, d3] => { results := [.lit (.bool true)], args := [d1, d2, d3] }
  | _ => none }
def tollingWireRow : OpenClaim := { program := "ytkcmkpljpmfiaaa", sum := "3e83227fc6bffbbbf6c0ccd2920a5622ea4df06bc2dc7cfaa8598adabb5f6440", func := "rollbook/rollbooklaw17.TollingWire", spec := "tollingWire", unfollowed := true, recurses := true, apart := false }
def TollingWireSaid : Prop := tollingWireRow.holds Try.pinned (OpenSpec.ofChange tollingWireSpec)

/-- ITS FALSE NEIGHBOUR: 'it returns false'. Refute it at one input. -/
def tollingWireWrong : ChangeSpec := { name := "tollingWire", fn := fun _ => fun
  | [d1, d2, d3] => { results := [.lit (.bool false)], args := [d1, d2, d3] }
  | _ => none }
def TollingWireWrongFalsely : Prop := tollingWireRow.holds Try.pinned (OpenSpec.ofChange tollingWireWrong)

/- THE SECOND FORM. 'bulk': how many values and letters a reading holds, each counted each time it is reached (what is shared counts as often as it is met; a slice's spare places count too). A statement '..UptoSaid' is the law's where the arguments, and the package variables that the reading takes, are together of bulk at most 1048576: NARROWER than '..Said'. Prove '..Said' where nothing that the law and all that it calls make is longer than what came in: it says more and counts as full. Else prove '..UptoSaid'. A law counts once. -/
mutual
def uptoBulk {H : Type} : DataW H → Nat
  | .lit (.string bytes) => bytes.length + 1
  | .lit _ => 1
  | .nil => 1
  | .ptr d => uptoBulk d + 1
  | .slice elems spare => uptoBulkAll elems + uptoBulkAll spare + 1
  | .agg parts => uptoBulkAll parts + 1
  | .iface _ d => uptoBulk d + 1
  | .map entries => uptoBulkEntries entries + 1
  | .held _ => 1
def uptoBulkAll {H : Type} : List (DataW H) → Nat
  | [] => 0
  | d :: r => uptoBulk d + uptoBulkAll r
def uptoBulkEntries {H : Type} : List (Lit × DataW H) → Nat
  | [] => 0
  | x :: r => uptoBulkEntry x + uptoBulkEntries r
def uptoBulkEntry {H : Type} : Lit × DataW H → Nat
  | (.string bytes, d) => bytes.length + uptoBulk d + 1
  | (_, d) => uptoBulk d + 1
 end
def uptoSmall : (H : Type) → List (DataW H) → Bool := fun _ ds => decide (uptoBulkAll ds ≤ 1048576)
def OpenSpec.upto (s : _root_.Go.ChangeSpec) : _root_.Go.OpenSpec := { _root_.Go.OpenSpec.ofChange s with cond := some uptoSmall }

/-- 'rollbooklaw17.TollingMerges', WHERE WHAT IT READS IS OF BULK AT MOST 1048576: true; the input reads as it did. -/
def tollingMergesUptoRow : OpenClaim := { program := "ytkcmkpljpmfiaaa", sum := "3e83227fc6bffbbbf6c0ccd2920a5622ea4df06bc2dc7cfaa8598adabb5f6440", func := "rollbook/rollbooklaw17.TollingMerges", spec := "tollingMerges", unfollowed := true, recurses := true, apart := false, narrowed := true }
def TollingMergesUptoSaid : Prop := tollingMergesUptoRow.holds Try.pinned (OpenSpec.upto tollingMergesSpec)

/-- 'rollbooklaw17.TollingExtends', WHERE WHAT IT READS IS OF BULK AT MOST 1048576: true; the input reads as it did. -/
def tollingExtendsUptoRow : OpenClaim := { program := "ytkcmkpljpmfiaaa", sum := "3e83227fc6bffbbbf6c0ccd2920a5622ea4df06bc2dc7cfaa8598adabb5f6440", func := "rollbook/rollbooklaw17.TollingExtends", spec := "tollingExtends", unfollowed := true, recurses := true, apart := false, narrowed := true }
def TollingExtendsUptoSaid : Prop := tollingExtendsUptoRow.holds Try.pinned (OpenSpec.upto tollingExtendsSpec)

/-- 'rollbooklaw17.TollingCounts', WHERE WHAT IT READS IS OF BULK AT MOST 1048576: true; the input reads as it did. -/
def tollingCountsUptoRow : OpenClaim := { program := "ytkcmkpljpmfiaaa", sum := "3e83227fc6bffbbbf6c0ccd2920a5622ea4df06bc2dc7cfaa8598adabb5f6440", func := "rollbook/rollbooklaw17.TollingCounts", spec := "tollingCounts", unfollowed := true, recurses := true, apart := false, narrowed := true }
def TollingCountsUptoSaid : Prop := tollingCountsUptoRow.holds Try.pinned (OpenSpec.upto tollingCountsSpec)

/-- 'rollbooklaw17.TollingOrders', WHERE WHAT IT READS IS OF BULK AT MOST 1048576: true; the input reads as it did. -/
def tollingOrdersUptoRow : OpenClaim := { program := "ytkcmkpljpmfiaaa", sum := "3e83227fc6bffbbbf6c0ccd2920a5622ea4df06bc2dc7cfaa8598adabb5f6440", func := "rollbook/rollbooklaw17.TollingOrders", spec := "tollingOrders", unfollowed := true, recurses := true, apart := false, narrowed := true }
def TollingOrdersUptoSaid : Prop := tollingOrdersUptoRow.holds Try.pinned (OpenSpec.upto tollingOrdersSpec)

/-- 'rollbooklaw17.TollingGrows', WHERE WHAT IT READS IS OF BULK AT MOST 1048576: true; the input reads as it did. -/
def tollingGrowsUptoRow : OpenClaim := { program := "ytkcmkpljpmfiaaa", sum := "3e83227fc6bffbbbf6c0ccd2920a5622ea4df06bc2dc7cfaa8598adabb5f6440", func := "rollbook/rollbooklaw17.TollingGrows", spec := "tollingGrows", unfollowed := true, recurses := true, apart := false, narrowed := true }
def TollingGrowsUptoSaid : Prop := tollingGrowsUptoRow.holds Try.pinned (OpenSpec.upto tollingGrowsSpec)

/-- 'rollbooklaw17.TollingParts', WHERE WHAT IT READS IS OF BULK AT MOST 1048576: true; the input reads as it did. -/
def tollingPartsUptoRow : OpenClaim := { program := "ytkcmkpljpmfiaaa", sum := "3e83227fc6bffbbbf6c0ccd2920a5622ea4df06bc2dc7cfaa8598adabb5f6440", func := "rollbook/rollbooklaw17.TollingParts", spec := "tollingParts", unfollowed := true, recurses := true, apart := false, narrowed := true }
def TollingPartsUptoSaid : Prop := tollingPartsUptoRow.holds Try.pinned (OpenSpec.upto tollingPartsSpec)

/-- 'rollbooklaw17.TollingMoves', WHERE WHAT IT READS IS OF BULK AT MOST 1048576: true; the input reads as it did. -/
def tollingMovesUptoRow : OpenClaim := { program := "ytkcmkpljpmfiaaa", sum := "3e83227fc6bffbbbf6c0ccd2920a5622ea4df06bc2dc7cfaa8598adabb5f6440", func := "rollbook/rollbooklaw17.TollingMoves", spec := "tollingMoves", unfollowed := true, recurses := true, apart := false, narrowed := true }
def TollingMovesUptoSaid : Prop := tollingMovesUptoRow.holds Try.pinned (OpenSpec.upto tollingMovesSpec)

/-- 'rollbooklaw17.TollingChecks', WHERE WHAT IT READS IS OF BULK AT MOST 1048576: true; the input reads as it did. -/
def tollingChecksUptoRow : OpenClaim := { program := "ytkcmkpljpmfiaaa", sum := "3e83227fc6bffbbbf6c0ccd2920a5622ea4df06bc2dc7cfaa8598adabb5f6440", func := "rollbook/rollbooklaw17.TollingChecks", spec := "tollingChecks", unfollowed := true, recurses := true, apart := false, narrowed := true }
def TollingChecksUptoSaid : Prop := tollingChecksUptoRow.holds Try.pinned (OpenSpec.upto tollingChecksSpec)

/-- 'rollbooklaw17.TollingWire', WHERE WHAT IT READS IS OF BULK AT MOST 1048576: true; the input reads as it did. -/
def tollingWireUptoRow : OpenClaim := { program := "ytkcmkpljpmfiaaa", sum := "3e83227fc6bffbbbf6c0ccd2920a5622ea4df06bc2dc7cfaa8598adabb5f6440", func := "rollbook/rollbooklaw17.TollingWire", spec := "tollingWire", unfollowed := true, recurses := true, apart := false, narrowed := true }
def TollingWireUptoSaid : Prop := tollingWireUptoRow.holds Try.pinned (OpenSpec.upto tollingWireSpec)

end Rows
end Go.Proofs.Ytkcmkpljpmfiaaa
