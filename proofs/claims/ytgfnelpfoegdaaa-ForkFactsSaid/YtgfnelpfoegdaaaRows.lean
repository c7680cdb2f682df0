/-
  No cell of these rows narrows 'for every input' (looked for: loops, veiled, ifaces, maps, wideKeys, modest, calm, conditions, laid).
  DERIVED. THE GIVEN ROWS OF THIS SEAT. 8 by the template 'for every input the law returns true; each argument reads behind the call as it read before'; 0 by the template 'total and deterministic' (their statements: YtgfnelpfoegdaaaTotals.lean).
  GIVEN WITH THE SEED: the statements are not yours to turn. If you find one false, say at which input.
  Laid BY PROGRAM, IN A SANDBOX (cutbox-rows.mjs): the forced cells as the released guide's own fill.sh prints them over the translation 5293da7afc2910d0… (all of the seat's roots in one cut). By AI agents, Wed Nov 11 2026. No macro, syntax, notation, axiom, sorry.
-/
import Derived.Test.YtgfnelpfoegdaaaChecked
import GoSem.Claim
import GoSem.ClaimJoined
import GoSem.ClaimMapViews
import Derived.JoinedTies
import Derived.KernelRfl
namespace Go.Proofs.Ytgfnelpfoegdaaa
/- THE CELL 'sum', in the pinned program and in every row, IS THE sha256 OF THE DUMP (.gsa) THAT YtgfnelpfoegdaaaProg.lean LOADS. Nothing in Lean hashes anything: it is a label: what it is worth is what the hold of that sum in a sandbox is worth. -/
noncomputable def Try.pinned : Pinned := { name := "ytgfnelpfoegdaaa", sum := "5293da7afc2910d0ce74d53d14ca1dcbf074044c50ddf08c4f56c44eb016b729", checked := Try.checked }
namespace Rows
def none {H : Type} : Left H := { results := [], args := [] }

/-- 'rollbooklaw33.ForkChecks': WHATEVER THE INPUT: true; the input reads as it did. -/
def forkChecksSpec : ChangeSpec := { name := "forkChecks", fn := fun _ => fun
  | [d1, d2] => { results := [.lit (.bool true)], args := [d1, d2] }
  | _ => none }
def forkChecksRow : OpenClaim := { program := "ytgfnelpfoegdaaa", sum := "5293da7afc2910d0ce74d53d14ca1dcbf074044c50ddf08c4f56c44eb016b729", func := "rollbook/rollbooklaw33.ForkChecks", spec := "forkChecks", unfollowed := true, recurses := true, apart := false }
def ForkChecksSaid : Prop := forkChecksRow.holds Try.pinned (OpenSpec.ofChange forkChecksSpec)

/-- ITS FALSE NEIGHBOUR: 'it returns false'. Refute it at one input. -/
def forkChecksWrong : ChangeSpec := { name := "forkChecks", fn := fun _ => fun
  | [d1, d2] => { results := [.lit (.bool false)], args := [d1, d2] }
  | _ => none }
def ForkChecksWrongFalsely : Prop := forkChecksRow.holds Try.pinned (OpenSpec.ofChange forkChecksWrong)

/-- 'rollbooklaw33.ForkChanges': WHATEVER THE INPUT: true; the input reads as it did. -/
def forkChangesSpec : ChangeSpec := { name := "forkChanges", fn := fun _ => fun
  | [d1, d2, d3] => { results := [.lit (.bool true)], args := [d1, d2, d3] }
  | _ => none }
def forkChangesRow : OpenClaim := { program := "ytgfnelpfoegdaaa", sum := "5293da7afc2910d0ce74d53d14ca1dcbf074044c50ddf08c4f56c44eb016b729", func := "rollbook/rollbooklaw33.ForkChanges", spec := "forkChanges", unfollowed := true, recurses := true, apart := false }
def ForkChangesSaid : Prop := forkChangesRow.holds Try.pinned (OpenSpec.ofChange forkChangesSpec)

/-- ITS FALSE NEIGHBOUR: 'it returns false'. Refute it at one input. -/
def forkChangesWrong : ChangeSpec := { name := "forkChanges", fn := fun _ => fun
  | [d1, d2, d3] => { results := [.lit (.bool false)], args := [d1, d2, d3] }
  | _ => none }
def ForkChangesWrongFalsely : Prop := forkChangesRow.holds Try.pinned (OpenSpec.ofChange forkChangesWrong)

/-- 'rollbooklaw33.ForkGrows': WHATEVER THE INPUT: true; the input reads as it did. -/
def forkGrowsSpec : ChangeSpec := { name := "forkGrows", fn := fun _ => fun
  | [d1, d2] => { results := [.lit (.bool true)], args := [d1, d2] }
  | _ => none }
def forkGrowsRow : OpenClaim := { program := "ytgfnelpfoegdaaa", sum := "5293da7afc2910d0ce74d53d14ca1dcbf074044c50ddf08c4f56c44eb016b729", func := "rollbook/rollbooklaw33.ForkGrows", spec := "forkGrows", unfollowed := true, recurses := true, apart := false }
def ForkGrowsSaid : Prop := forkGrowsRow.holds Try.pinned (OpenSpec.ofChange forkGrowsSpec)

/-- ITS FALSE NEIGHBOUR: 'it returns false'. Refute it at one input. -/
def forkGrowsWrong : ChangeSpec := { name := "forkGrows", fn := fun _ => fun
  | [d1, d2] => { results := [.lit (.bool false)], args := [d1, d2] }
  | _ => none }
def ForkGrowsWrongFalsely : Prop := forkGrowsRow.holds Try.pinned (OpenSpec.ofChange forkGrowsWrong)

/-- 'rollbooklaw33.ForkRemands': WHATEVER THE INPUT: true; the input reads as it did. -/
def forkRemandsSpec : ChangeSpec := { name := "forkRemands", fn := fun _ => fun
  | [d1, d2] => { results := [.lit (.bool true)], args := [d1, d2] }
  | _ => none }
def forkRemandsRow : OpenClaim := { program := "ytgfnelpfoegdaaa", sum := "5293da7afc2910d0ce74d53d14ca1dcbf074044c50ddf08c4f56c44eb016b729", func := "rollbook/rollbooklaw33.ForkRemands", spec := "forkRemands", unfollowed := true, recurses := true, apart := false }
def ForkRemandsSaid : Prop := forkRemandsRow.holds Try.pinned (OpenSpec.ofChange forkRemandsSpec)

/-- ITS FALSE NEIGHBOUR: 'it returns false'. Refute it at one input. -/
def forkRemandsWrong : ChangeSpec := { name := "forkRemands", fn := fun _ => fun
  | [d1, d2] => { results := [.lit (.bool false)], args := [d1, d2] }
  | _ => none }
def ForkRemandsWrongFalsely : Prop := forkRemandsRow.holds Try.pinned (OpenSpec.ofChange forkRemandsWrong)

/-- 'rollbooklaw33.ForkLimits': WHATEVER THE INPUT: true; the input reads as it did. -/
def forkLimitsSpec : ChangeSpec := { name := "forkLimits", fn := fun _ => fun
  | [d1, d2, d3] => { results := [.lit (.bool true)], args := [d1, d2, d3] }
  | _ => none }
def forkLimitsRow : OpenClaim := { program := "ytgfnelpfoegdaaa", sum := "5293da7afc2910d0ce74d53d14ca1dcbf074044c50ddf08c4f56c44eb016b729", func := "rollbook/rollbooklaw33.ForkLimits", spec := "forkLimits", unfollowed := true, recurses := true, apart := false }
def ForkLimitsSaid : Prop := forkLimitsRow.holds Try.pinned (OpenSpec.ofChange forkLimitsSpec)

/-- ITS FALSE NEIGHBOUR: 'it returns false'. Refute it at one input. -/
def forkLimitsWrong : ChangeSpec := { name := "forkLimits", fn := fun _ => fun
  | [d1, d2, d3] => { results := [.lit (.bool false)], args := [d1, d2, d3] }
  | _ => none }
def ForkLimitsWrongFalsely : Prop := forkLimitsRow.holds Try.pinned (OpenSpec.ofChange forkLimitsWrong)

/-- 'rollbooklaw33.ForkReads': WHATEVER THE INPUT: true; the input reads as it did. -/
def forkReadsSpec : ChangeSpec := { name := "forkReads", fn := fun _ => fun
  | [d1, d2, d3] => { results := [.lit (.bool true)], args := [d1, d2, d3] }
  | _ => none }
def forkReadsRow : OpenClaim := { program := "ytgfnelpfoegdaaa", sum := "5293da7afc2910d0ce74d53d14ca1dcbf074044c50ddf08c4f56c44eb016b729", func := "rollbook/rollbooklaw33.ForkReads", spec := "forkReads", unfollowed := true, recurses := true, apart := false }
def ForkReadsSaid : Prop := forkReadsRow.holds Try.pinned (OpenSpec.ofChange forkReadsSpec)

/-- ITS FALSE NEIGHBOUR: 'it returns false'. Refute it at one input. -/
def forkReadsWrong : ChangeSpec := { name := "forkReads", fn := fun _ => fun
  | [d1, d2, d3] => { results := [.lit (.bool false)], args := [d1, d2, d3] }
  | _ => none }
def ForkReadsWrongFalsely : Prop := forkReadsRow.holds Try.pinned (OpenSpec.ofChange forkReadsWrong)

/-- 'rollbooklaw33.ForkDepths': WHATEVER THE INPUT: true; the input reads as it did. -/
def forkDepthsSpec : ChangeSpec := { name := "forkDepths", fn := fun _ => fun
  | [d1, d2] => { results := [.lit (.bool true)], args := [d1, d2] }
  | _ => none }
def forkDepthsRow : OpenClaim := { program := "ytgfnelpfoegdaaa", sum := "5293da7afc2910d0ce74d53d14ca1dcbf074044c50ddf08c4f56c44eb016b729", func := "rollbook/rollbooklaw33.ForkDepths", spec := "forkDepths", unfollowed := true, recurses := true, apart := false }
def ForkDepthsSaid : Prop := forkDepthsRow.holds Try.pinned (OpenSpec.ofChange forkDepthsSpec)

/-- ITS FALSE NEIGHBOUR: 'it returns false'. Refute it at one input. -/
def forkDepthsWrong : ChangeSpec := { name := "forkDepths", fn := fun _ => fun
  | [d1, d2] => { results := [.lit (.bool false)], args := [d1, d2] }
  | _ => none }
def ForkDepthsWrongFalsely : Prop := forkDepthsRow.holds Try.pinned (OpenSpec.ofChange forkDepthsWrong)

/-- 'rollbooklaw33.ForkFacts': WHATEVER THE INPUT: true; the input reads as it did. -/
def forkFactsSpec : ChangeSpec := { name := "forkFacts", fn := fun _ => fun
  | [d1, d2, d3] => { results := [.lit (.bool true)], args := [d1, d2, d3] }
  | _ => none }
def forkFactsRow : OpenClaim := { program := "ytgfnelpfoegdaaa", sum := "5293da7afc2910d0ce74d53d14ca1dcbf074044c50ddf08c4f56c44eb016b729", func := "rollbook/rollbooklaw33.ForkFacts", spec := "forkFacts", unfollowed := true, recurses := true, apart := false }
def ForkFactsSaid : Prop := forkFactsRow.holds Try.pinned (OpenSpec.ofChange forkFactsSpec)

/-- ITS FALSE NEIGHBOUR: 'it returns false'. Refute it at one input. -/
def forkFactsWrong : ChangeSpec := { name := "forkFacts", fn := fun _ => fun
  | [d1, d2, d3] => { results := [.lit (.bool false)], args := [d1, d2, d3] }
  | _ => none }
def ForkFactsWrongFalsely : Prop := forkFactsRow.holds Try.pinned (OpenSpec.ofChange forkFactsWrong)

/- THE SECOND FORM. 'bulk': how many values and letters a reading holds, each counted each time it is reached (what is shared counts as often as it is met; a slice's spare places count too). A statement '..UptoSaid' is the law's where the arguments, and the package variables that the reading takes, are together of bulk at most 1048576: NARROWER than '..Said'. Prove '..Said' where nothing that the law and all that it calls make is longer than what came in: it says more and counts as full. Else prove '..UptoSaid'. A law counts once. -/
mutual
def uptoBulk {H : Type} : DataW H → Nat
  | .lit (.string bytes) => bytes.length + 1
  | .lit _ => 1
  | .nil => 1
  | .ptr d => uptoBulk d + 1
  | .slice elems spare => uptoBulkAll elems + uptoBulkAll spare + 1
  | .agg parts => uptoBulkAll parts + 1
  | .iface _ d => uptoBulk d + 1
  | .map entries => uptoBulkEntries entries + 1
  | .held _ => 1
def uptoBulkAll {H : Type} : List (DataW H) → Nat
  | [] => 0
  | d :: r => uptoBulk d + uptoBulkAll r
def uptoBulkEntries {H : Type} : List (Lit × DataW H) → Nat
  | [] => 0
  | x :: r => uptoBulkEntry x + uptoBulkEntries r
def uptoBulkEntry {H : Type} : Lit × DataW H → Nat
  | (.string bytes, d) => bytes.length + uptoBulk d + 1
  | (_, d) => uptoBulk d + 1
 end
def uptoSmall : (H : Type) → List (DataW H) → Bool := fun _ ds => decide (uptoBulkAll ds ≤ 1048576)
def OpenSpec.upto (s : _root_.Go.ChangeSpec) : _root_.Go.OpenSpec := { _root_.Go.OpenSpec.ofChange s with cond := some uptoSmall }

/-- 'rollbooklaw33.ForkChecks', WHERE WHAT IT READS IS OF BULK AT MOST 1048576: true; the input reads as it did. -/
def forkChecksUptoRow : OpenClaim := { program := "ytgfnelpfoegdaaa", sum := "5293da7afc2910d0ce74d53d14ca1dcbf074044c50ddf08c4f56c44eb016b729", func := "rollbook/rollbooklaw33.ForkChecks", spec := "forkChecks", unfollowed := true, recurses := true, apart := false, narrowed := true }
def ForkChecksUptoSaid : Prop := forkChecksUptoRow.holds Try.pinned (OpenSpec.upto forkChecksSpec)

/-- 'rollbooklaw33.ForkChanges', WHERE WHAT IT READS IS OF BULK AT MOST 1048576: true; the input reads as it did. -/
def forkChangesUptoRow : OpenClaim := { program := "ytgfnelpfoegdaaa", sum := "5293da7afc2910d0ce74d53d14ca1dcbf074044c50ddf08c4f56c44eb016b729", func := "rollbook/rollbooklaw33.ForkChanges", spec := "forkChanges", unfollowed := true, recurses := true, apart := false, narrowed := true }
def ForkChangesUptoSaid : Prop := forkChangesUptoRow.holds Try.pinned (OpenSpec.upto forkChangesSpec)

/-- 'rollbooklaw33.ForkGrows', WHERE WHAT IT READS IS OF BULK AT MOST 1048576: true; the input reads as it did. -/
def forkGrowsUptoRow : OpenClaim := { program := "ytgfnelpfoegdaaa", sum := "5293da7afc2910d0ce74d53d14ca1dcbf074044c50ddf08c4f56c44eb016b729", func := "rollbook/rollbooklaw33.ForkGrows", spec := "forkGrows", unfollowed := true, recurses := true, apart := false, narrowed := true }
def ForkGrowsUptoSaid : Prop := forkGrowsUptoRow.holds Try.pinned (OpenSpec.upto forkGrowsSpec)

/-- 'rollbooklaw33.ForkRemands', WHERE WHAT IT READS IS OF BULK AT MOST 1048576: true; the input reads as it did. -/
def forkRemandsUptoRow : OpenClaim := { program := "ytgfnelpfoegdaaa", sum := "5293da7afc2910d0ce74d53d14ca1dcbf074044c50ddf08c4f56c44eb016b729", func := "rollbook/rollbooklaw33.ForkRemands", spec := "forkRemands", unfollowed := true, recurses := true, apart := false, narrowed := true }
def ForkRemandsUptoSaid : Prop := forkRemandsUptoRow.holds Try.pinned (OpenSpec.upto forkRemandsSpec)

/-- 'rollbooklaw33.ForkLimits', WHERE WHAT IT READS IS OF BULK AT MOST 1048576: true; the input reads as it did. -/
def forkLimitsUptoRow : OpenClaim := { program := "ytgfnelpfoegdaaa", sum := "5293da7afc2910d0ce74d53d14ca1dcbf074044c50ddf08c4f56c44eb016b729", func := "rollbook/rollbooklaw33.ForkLimits", spec := "forkLimits", unfollowed := true, recurses := true, apart := false, narrowed := true }
def ForkLimitsUptoSaid : Prop := forkLimitsUptoRow.holds Try.pinned (OpenSpec.upto forkLimitsSpec)

/-- 'rollbooklaw33.ForkReads', WHERE WHAT IT READS IS OF BULK AT MOST 1048576: true; the input reads as it did. -/
def forkReadsUptoRow : OpenClaim := { program := "ytgfnelpfoegdaaa", sum := "5293da7afc2910d0ce74d53d14ca1dcbf074044c50ddf08c4f56c44eb016b729", func := "rollbook/rollbooklaw33.ForkReads", spec := "forkReads", unfollowed := true, recurses := true, apart := false, narrowed := true }
def ForkReadsUptoSaid : Prop := forkReadsUptoRow.holds Try.pinned (OpenSpec.upto forkReadsSpec)

/-- 'rollbooklaw33.ForkDepths', WHERE WHAT IT READS IS OF BULK AT MOST 1048576: true; the input reads as it did. -/
def forkDepthsUptoRow : OpenClaim := { program := "ytgfnelpfoegdaaa", sum := "5293da7afc2910d0ce74d53d14ca1dcbf074044c50ddf08c4f56c44eb016b729", func := "rollbook/rollbooklaw33.ForkDepths", spec := "forkDepths", unfollowed := true, recurses := true, apart := false, narrowed := true }
def ForkDepthsUptoSaid : Prop := forkDepthsUptoRow.holds Try.pinned (OpenSpec.upto forkDepthsSpec)

/-- 'rollbooklaw33.ForkFacts', WHERE WHAT IT READS IS OF BULK AT MOST 1048576: true; the input reads as it did. -/
def forkFactsUptoRow : OpenClaim := { program := "ytgfnelpfoegdaaa", sum := "5293da7afc2910d0ce74d53d14ca1dcbf074044c50ddf08c4f56c44eb016b729", func := "rollbook/rollbooklaw33.ForkFacts", spec := "forkFacts", unfollowed := true, recurses := true, apart := false, narrowed := true }
def ForkFactsUptoSaid : Prop := forkFactsUptoRow.holds Try.pinned (OpenSpec.upto forkFactsSpec)

end Rows
end Go.Proofs.Ytgfnelpfoegdaaa
