/-
  No cell of these rows narrows 'for every input' (looked for: loops, veiled, ifaces, maps, wideKeys, modest, calm, conditions, laid).
  DERIVED. THE GIVEN ROWS OF THIS SEAT. 9 by the template 'for every input the law returns true; each argument reads behind the call as it read before'; 0 by the template 'total and deterministic' (their statements: YtdhiefgbajogcaaTotals.lean).
  GIVEN WITH THE SEED: the statements are not yours to turn. If you find one false, say at which input.
  Laid BY PROGRAM, IN A SANDBOX (cutbox-rows.mjs): the forced cells as the released guide's own fill.sh prints them over the translation 9f35cb0df087a633… (all of the seat's roots in one cut). By AI agents, Wed Nov 11 2026. No macro, syntax, notation, axiom, sorry.
-/
import Derived.Test.YtdhiefgbajogcaaChecked
import GoSem.Claim
import GoSem.ClaimJoined
import GoSem.ClaimMapViews
import Derived.JoinedTies
import Derived.KernelRfl
namespace Go.Proofs.Ytdhiefgbajogcaa
/- THE CELL 'sum', in the pinned program and in every row, IS THE sha256 OF THE DUMP (.gsa) THAT YtdhiefgbajogcaaProg.lean LOADS. Nothing in Lean hashes anything: it is a label: what it is worth is what the hold of that sum in a sandbox is worth. -/
noncomputable def Try.pinned : Pinned := { name := "ytdhiefgbajogcaa", sum := "9f35cb0df087a6332e15a1f5ed5ef6f06ef2f0b90a9e30fe2e710dc57567d37a", checked := Try.checked }
namespace Rows
def none {H : Type} : Left H := { results := [], args := [] }

/-- 'rollbooklaw21.ServiceChecks': WHATEVER THE INPUT: true; the input reads as it did. -/
def serviceChecksSpec : ChangeSpec := { name := "serviceChecks", fn := fun _ => fun
  | [d1, d2, d3] => { results := [.lit (.bool true)], args := [d1, d2, d3] }
  | _ => none }
def serviceChecksRow : OpenClaim := { program := "ytdhiefgbajogcaa", sum := "9f35cb0df087a6332e15a1f5ed5ef6f06ef2f0b90a9e30fe2e710dc57567d37a", func := "rollbook/rollbooklaw21.ServiceChecks", spec := "serviceChecks", unfollowed := true, recurses := true, apart := false }
def ServiceChecksSaid : Prop := serviceChecksRow.holds Try.pinned (OpenSpec.ofChange serviceChecksSpec)

/-- ITS FALSE NEIGHBOUR: 'it returns false'. Refute it at one input. -/
def serviceChecksWrong : ChangeSpec := { name := "serviceChecks", fn := fun _ => fun
  | [d1, d2, d3] => { results := [.lit (.bool false)], args := [d1, d2, d3] }
  | _ => none }
def ServiceChecksWrongFalsely : Prop := serviceChecksRow.holds Try.pinned (OpenSpec.ofChange serviceChecksWrong)

/-- 'rollbooklaw21.ServiceChanges': WHATEVER THE INPUT: true; the input reads as it did. -/
def serviceChangesSpec : ChangeSpec := { name := "serviceChanges", fn := fun _ => fun
  | [d1, d2, d3, d4] => { results := [.lit (.bool true)], args := [d1, d2, d3, d4] }
  | _ => none }
def serviceChangesRow : OpenClaim := { program := "ytdhiefgbajogcaa", sum := "9f35cb0df087a6332e15a1f5ed5ef6f06ef2f0b90a9e30fe2e710dc57567d37a", func := "rollbook/rollbooklaw21.ServiceChanges", spec := "serviceChanges", unfollowed := true, recurses := true, apart := false }
def ServiceChangesSaid : Prop := serviceChangesRow.holds Try.pinned (OpenSpec.ofChange serviceChangesSpec)

/-- ITS FALSE NEIGHBOUR: 'it returns false'. Refute it at one input. -/
def serviceChangesWrong : ChangeSpec := { name := "serviceChanges", fn := fun _ => fun
  | [d1, d2, d3, d4] => { results := [.lit (.bool false)], args := [d1, d2, d3, d4] }
  | _ => none }
def ServiceChangesWrongFalsely : Prop := serviceChangesRow.holds Try.pinned (OpenSpec.ofChange serviceChangesWrong)

/-- 'rollbooklaw21.ServiceOf': WHATEVER THE INPUT: true; the input reads as it did. -/
def serviceOfSpec : ChangeSpec := { name := "serviceOf", fn := fun _ => fun
  | [d] => { results := [.lit (.bool true)], args := [d] }
  | _ => none }
def serviceOfRow : OpenClaim := { program := "ytdhiefgbajogcaa", sum := "9f35cb0df087a6332e15a1f5ed5ef6f06ef2f0b90a9e30fe2e710dc57567d37a", func := "rollbook/rollbooklaw21.ServiceOf", spec := "serviceOf", unfollowed := true, recurses := true, apart := false }
def ServiceOfSaid : Prop := serviceOfRow.holds Try.pinned (OpenSpec.ofChange serviceOfSpec)

/-- ITS FALSE NEIGHBOUR: 'it returns false'. Refute it at one input. -/
def serviceOfWrong : ChangeSpec := { name := "serviceOf", fn := fun _ => fun
  | [d] => { results := [.lit (.bool false)], args := [d] }
  | _ => none }
def ServiceOfWrongFalsely : Prop := serviceOfRow.holds Try.pinned (OpenSpec.ofChange serviceOfWrong)

/-- 'rollbooklaw21.ServiceLeast': WHATEVER THE INPUT: true; the input reads as it did. -/
def serviceLeastSpec : ChangeSpec := { name := "serviceLeast", fn := fun _ => fun
  | [d] => { results := [.lit (.bool true)], args := [d] }
  | _ => none }
def serviceLeastRow : OpenClaim := { program := "ytdhiefgbajogcaa", sum := "9f35cb0df087a6332e15a1f5ed5ef6f06ef2f0b90a9e30fe2e710dc57567d37a", func := "rollbook/rollbooklaw21.ServiceLeast", spec := "serviceLeast", unfollowed := true, recurses := true, apart := false }
def ServiceLeastSaid : Prop := serviceLeastRow.holds Try.pinned (OpenSpec.ofChange serviceLeastSpec)

/-- ITS FALSE NEIGHBOUR: 'it returns false'. Refute it at one input. -/
def serviceLeastWrong : ChangeSpec := { name := "serviceLeast", fn := fun _ => fun
  | [d] => { results := [.lit (.bool false)], args := [d] }
  | _ => none }
def ServiceLeastWrongFalsely : Prop := serviceLeastRow.holds Try.pinned (OpenSpec.ofChange serviceLeastWrong)

/-- 'rollbooklaw21.ServiceLocal': WHATEVER THE INPUT: true; the input reads as it did. -/
def serviceLocalSpec : ChangeSpec := { name := "serviceLocal", fn := fun _ => fun
  | [d] => { results := [.lit (.bool true)], args := [d] }
  | _ => none }
def serviceLocalRow : OpenClaim := { program := "ytdhiefgbajogcaa", sum := "9f35cb0df087a6332e15a1f5ed5ef6f06ef2f0b90a9e30fe2e710dc57567d37a", func := "rollbook/rollbooklaw21.ServiceLocal", spec := "serviceLocal", unfollowed := true, recurses := true, apart := false }
def ServiceLocalSaid : Prop := serviceLocalRow.holds Try.pinned (OpenSpec.ofChange serviceLocalSpec)

/-- ITS FALSE NEIGHBOUR: 'it returns false'. Refute it at one input. -/
def serviceLocalWrong : ChangeSpec := { name := "serviceLocal", fn := fun _ => fun
  | [d] => { results := [.lit (.bool false)], args := [d] }
  | _ => none }
def ServiceLocalWrongFalsely : Prop := serviceLocalRow.holds Try.pinned (OpenSpec.ofChange serviceLocalWrong)

/-- 'rollbooklaw21.ServiceMore': WHATEVER THE INPUT: true; the input reads as it did. -/
def serviceMoreSpec : ChangeSpec := { name := "serviceMore", fn := fun _ => fun
  | [d1, d2] => { results := [.lit (.bool true)], args := [d1, d2] }
  | _ => none }
def serviceMoreRow : OpenClaim := { program := "ytdhiefgbajogcaa", sum := "9f35cb0df087a6332e15a1f5ed5ef6f06ef2f0b90a9e30fe2e710dc57567d37a", func := "rollbook/rollbooklaw21.ServiceMore", spec := "serviceMore", unfollowed := true, recurses := true, apart := false }
def ServiceMoreSaid : Prop := serviceMoreRow.holds Try.pinned (OpenSpec.ofChange serviceMoreSpec)

/-- ITS FALSE NEIGHBOUR: 'it returns false'. Refute it at one input. -/
def serviceMoreWrong : ChangeSpec := { name := "serviceMore", fn := fun _ => fun
  | [d1, d2] => { results := [.lit (.bool false)], args := [d1, d2] }
  | _ => none }
def ServiceMoreWrongFalsely : Prop := serviceMoreRow.holds Try.pinned (OpenSpec.ofChange serviceMoreWrong)

/-- 'rollbooklaw21.ServiceOrder': WHATEVER THE INPUT: true; the input reads as it did. -/
def serviceOrderSpec : ChangeSpec := { name := "serviceOrder", fn := fun _ => fun
  | [d] => { results := [.lit (.bool true)], args := [d] }
  | _ => none }
def serviceOrderRow : OpenClaim := { program := "ytdhiefgbajogcaa", sum := "9f35cb0df087a6332e15a1f5ed5ef6f06ef2f0b90a9e30fe2e710dc57567d37a", func := "rollbook/rollbooklaw21.ServiceOrder", spec := "serviceOrder", unfollowed := true, recurses := true, apart := false }
def ServiceOrderSaid : Prop := serviceOrderRow.holds Try.pinned (OpenSpec.ofChange serviceOrderSpec)

/-- ITS FALSE NEIGHBOUR: 'it returns false'. Refute it at one input. -/
def serviceOrderWrong : ChangeSpec := { name := "serviceOrder", fn := fun _ => fun
  | [d] => { results := [.lit (.bool false)], args := [d] }
  | _ => none }
def ServiceOrderWrongFalsely : Prop := serviceOrderRow.holds Try.pinned (OpenSpec.ofChange serviceOrderWrong)

/-- 'rollbooklaw21.ServiceReadings': WHATEVER THE INPUT: true; the input reads as it did. -/
def serviceReadingsSpec : ChangeSpec := { name := "serviceReadings", fn := fun _ => fun
  | [d] => { results := [.lit (.bool true)], args := [d] }
  | _ => none }
def serviceReadingsRow : OpenClaim := { program := "ytdhiefgbajogcaa", sum := "9f35cb0df087a6332e15a1f5ed5ef6f06ef2f0b90a9e30fe2e710dc57567d37a", func := "rollbook/rollbooklaw21.ServiceReadings", spec := "serviceReadings", unfollowed := true, recurses := true, apart := false }
def ServiceReadingsSaid : Prop := serviceReadingsRow.holds Try.pinned (OpenSpec.ofChange serviceReadingsSpec)

/-- ITS FALSE NEIGHBOUR: 'it returns false'. Refute it at one input. -/
def serviceReadingsWrong : ChangeSpec := { name := "serviceReadings", fn := fun _ => fun
  | [d] => { results := [.lit (.bool false)], args := [d] }
  | _ => none }
def ServiceReadingsWrongFalsely : Prop := serviceReadingsRow.holds Try.pinned (OpenSpec.ofChange serviceReadingsWrong)

/-- 'rollbooklaw21.ServiceTruth': WHATEVER THE INPUT: true; the input reads as it did. -/
def serviceTruthSpec : ChangeSpec := { name := "serviceTruth", fn := fun _ => fun
  | [d1, d2] => { results := [.lit (.bool true)], args := [d1, d2] }
  | _ => none }
def serviceTruthRow : OpenClaim := { program := "ytdhiefgbajogcaa", sum := "9f35cb0df087a6332e15a1f5ed5ef6f06ef2f0b90a9e30fe2e710dc57567d37a", func := "rollbook/rollbooklaw21.ServiceTruth", spec := "serviceTruth", unfollowed := true, recurses := true, apart := false }
def ServiceTruthSaid : Prop := serviceTruthRow.holds Try.pinned (OpenSpec.ofChange serviceTruthSpec)

/-- ITS FALSE NEIGHBOUR: 'it returns false'. Refute it at one input. -/
def serviceTruthWrong : ChangeSpec := { name := "serviceTruth", fn := fun _ => fun
  | [d1, d2] => { results := [.lit (.bool false)], args := [d1, d2] }
  | _ => none }
def ServiceTruthWrongFalsely : Prop := serviceTruthRow.holds Try.pinned (OpenSpec.ofChange serviceTruthWrong)

/- THE SECOND FORM. 'bulk': how many values and letters a reading holds, each counted each time it is reached (what is shared counts as often as it is met; a slice's spare places count too). A statement '..UptoSaid' is the law's where the arguments, and the package variables that the reading takes, are together of bulk at most 1048576: NARROWER than '..Said'. Prove '..Said' where nothing that the law and all that it calls make is longer than what came in: it says more and counts as full. Else prove '..UptoSaid'. A law counts once. -/
mutual
def uptoBulk {H : Type} : DataW H → Nat
  | .lit (.string bytes) => bytes.length + 1
  | .lit _ => 1
  | .nil => 1
  | .ptr d => uptoBulk d + 1
  | .slice elems spare => uptoBulkAll elems + uptoBulkAll spare + 1
  | .agg parts => uptoBulkAll parts + 1
  | .iface _ d => uptoBulk d + 1
  | .map entries => uptoBulkEntries entries + 1
  | .held _ => 1
def uptoBulkAll {H : Type} : List (DataW H) → Nat
  | [] => 0
  | d :: r => uptoBulk d + uptoBulkAll r
def uptoBulkEntries {H : Type} : List (Lit × DataW H) → Nat
  | [] => 0
  | x :: r => uptoBulkEntry x + uptoBulkEntries r
def uptoBulkEntry {H : Type} : Lit × DataW H → Nat
  | (.string bytes, d) => bytes.length + uptoBulk d + 1
  | (_, d) => uptoBulk d + 1
 end
def uptoSmall : (H : Type) → List (DataW H) → Bool := fun _ ds => decide (uptoBulkAll ds ≤ 1048576)
def OpenSpec.upto (s : _root_.Go.ChangeSpec) : _root_.Go.OpenSpec := { _root_.Go.OpenSpec.ofChange s with cond := some uptoSmall }

/-- 'rollbooklaw21.ServiceChecks', WHERE WHAT IT READS IS OF BULK AT MOST 1048576: true; the input reads as it did. -/
def serviceChecksUptoRow : OpenClaim := { program := "ytdhiefgbajogcaa", sum := "9f35cb0df087a6332e15a1f5ed5ef6f06ef2f0b90a9e30fe2e710dc57567d37a", func := "rollbook/rollbooklaw21.ServiceChecks", spec := "serviceChecks", unfollowed := true, recurses := true, apart := false, narrowed := true }
def ServiceChecksUptoSaid : Prop := serviceChecksUptoRow.holds Try.pinned (OpenSpec.upto serviceChecksSpec)

/-- 'rollbooklaw21.ServiceChanges', WHERE WHAT IT READS IS OF BULK AT MOST 1048576: true; the input reads as it did. -/
def serviceChangesUptoRow : OpenClaim := { program := "ytdhiefgbajogcaa", sum := "9f35cb0df087a6332e15a1f5ed5ef6f06ef2f0b90a9e30fe2e710dc57567d37a", func := "rollbook/rollbooklaw21.ServiceChanges", spec := "serviceChanges", unfollowed := true, recurses := true, apart := false, narrowed := true }
def ServiceChangesUptoSaid : Prop := serviceChangesUptoRow.holds Try.pinned (OpenSpec.upto serviceChangesSpec)

/-- 'rollbooklaw21.ServiceOf', WHERE WHAT IT READS IS OF BULK AT MOST 1048576: true; the input reads as it did. -/
def serviceOfUptoRow : OpenClaim := { program := "ytdhiefgbajogcaa", sum := "9f35cb0df087a6332e15a1f5ed5ef6f06ef2f0b90a9e30fe2e710dc57567d37a", func := "rollbook/rollbooklaw21.ServiceOf", spec := "serviceOf", unfollowed := true, recurses := true, apart := false, narrowed := true }
def ServiceOfUptoSaid : Prop := serviceOfUptoRow.holds Try.pinned (OpenSpec.upto serviceOfSpec)

/-- 'rollbooklaw21.ServiceLeast', WHERE WHAT IT READS IS OF BULK AT MOST 1048576: true; the input reads as it did. -/
def serviceLeastUptoRow : OpenClaim := { program := "ytdhiefgbajogcaa", sum := "9f35cb0df087a6332e15a1f5ed5ef6f06ef2f0b90a9e30fe2e710dc57567d37a", func := "rollbook/rollbooklaw21.ServiceLeast", spec := "serviceLeast", unfollowed := true, recurses := true, apart := false, narrowed := true }
def ServiceLeastUptoSaid : Prop := serviceLeastUptoRow.holds Try.pinned (OpenSpec.upto serviceLeastSpec)

/-- 'rollbooklaw21.ServiceLocal', WHERE WHAT IT READS IS OF BULK AT MOST 1048576: true; the input reads as it did. -/
def serviceLocalUptoRow : OpenClaim := { program := "ytdhiefgbajogcaa", sum := "9f35cb0df087a6332e15a1f5ed5ef6f06ef2f0b90a9e30fe2e710dc57567d37a", func := "rollbook/rollbooklaw21.ServiceLocal", spec := "serviceLocal", unfollowed := true, recurses := true, apart := false, narrowed := true }
def ServiceLocalUptoSaid : Prop := serviceLocalUptoRow.holds Try.pinned (OpenSpec.upto serviceLocalSpec)

/-- 'rollbooklaw21.ServiceMore', WHERE WHAT IT READS IS OF BULK AT MOST 1048576: true; the input reads as it did. -/
def serviceMoreUptoRow : OpenClaim := { program := "ytdhiefgbajogcaa", sum := "9f35cb0df087a6332e15a1f5ed5ef6f06ef2f0b90a9e30fe2e710dc57567d37a", func := "rollbook/rollbooklaw21.ServiceMore", spec := "serviceMore", unfollowed := true, recurses := true, apart := false, narrowed := true }
def ServiceMoreUptoSaid : Prop := serviceMoreUptoRow.holds Try.pinned (OpenSpec.upto serviceMoreSpec)

/-- 'rollbooklaw21.ServiceOrder', WHERE WHAT IT READS IS OF BULK AT MOST 1048576: true; the input reads as it did. -/
def serviceOrderUptoRow : OpenClaim := { program := "ytdhiefgbajogcaa", sum := "9f35cb0df087a6332e15a1f5ed5ef6f06ef2f0b90a9e30fe2e710dc57567d37a", func := "rollbook/rollbooklaw21.ServiceOrder", spec := "serviceOrder", unfollowed := true, recurses := true, apart := false, narrowed := true }
def ServiceOrderUptoSaid : Prop := serviceOrderUptoRow.holds Try.pinned (OpenSpec.upto serviceOrderSpec)

/-- 'rollbooklaw21.ServiceReadings', WHERE WHAT IT READS IS OF BULK AT MOST 1048576: true; the input reads as it did. -/
def serviceReadingsUptoRow : OpenClaim := { program := "ytdhiefgbajogcaa", sum := "9f35cb0df087a6332e15a1f5ed5ef6f06ef2f0b90a9e30fe2e710dc57567d37a", func := "rollbook/rollbooklaw21.ServiceReadings", spec := "serviceReadings", unfollowed := true, recurses := true, apart := false, narrowed := true }
def ServiceReadingsUptoSaid : Prop := serviceReadingsUptoRow.holds Try.pinned (OpenSpec.upto serviceReadingsSpec)

/-- 'rollbooklaw21.ServiceTruth', WHERE WHAT IT READS IS OF BULK AT MOST 1048576: true; the input reads as it did. -/
def serviceTruthUptoRow : OpenClaim := { program := "ytdhiefgbajogcaa", sum := "9f35cb0df087a6332e15a1f5ed5ef6f06ef2f0b90a9e30fe2e710dc57567d37a", func := "rollbook/rollbooklaw21.ServiceTruth", spec := "serviceTruth", unfollowed := true, recurses := true, apart := false, narrowed := true }
def ServiceTruthUptoSaid : Prop := serviceTruthUptoRow.holds Try.pinned (OpenSpec.upto serviceTruthSpec)

end Rows
end Go.Proofs.Ytdhiefgbajogcaa
