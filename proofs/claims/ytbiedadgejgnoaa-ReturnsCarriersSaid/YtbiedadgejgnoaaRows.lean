/-
  No cell of these rows narrows 'for every input' (looked for: loops, veiled, ifaces, maps, wideKeys, modest, calm, conditions, laid).
  DERIVED. THE GIVEN ROWS OF THIS SEAT. 10 by the template 'for every input the law returns true; each argument reads behind the call as it read before'; 0 by the template 'total and deterministic' (their statements: YtbiedadgejgnoaaTotals.lean).
  GIVEN WITH THE SEED: the statements are not yours to turn. If you find one false, say at which input.
  Laid BY PROGRAM, IN A SANDBOX (cutbox-rows.mjs): the forced cells as the released guide's own fill.sh prints them over the translation 538d2ab62d7a41e1… (all of the seat's roots in one cut). By AI agents, Wed Nov 11 2026. No macro, syntax, notation, axiom, sorry.
-/
import Derived.Test.YtbiedadgejgnoaaChecked
import GoSem.Claim
import GoSem.ClaimJoined
import GoSem.ClaimMapViews
import Derived.JoinedTies
import Derived.KernelRfl
namespace Go.Proofs.Ytbiedadgejgnoaa
/- THE CELL 'sum', in the pinned program and in every row, IS THE sha256 OF THE DUMP (.gsa) THAT YtbiedadgejgnoaaProg.lean LOADS. Nothing in Lean hashes anything: it is a label: what it is worth is what the hold of that sum in a sandbox is worth. -/
noncomputable def Try.pinned : Pinned := { name := "ytbiedadgejgnoaa", sum := "538d2ab62d7a41e122162e843b0d1d3f4e9798e2039c8d690613f964379cb37e", checked := Try.checked }
namespace Rows
def none {H : Type} : Left H := { results := [], args := [] }

/-- 'rollbooklaw20.ReturnsWrong': WHATEVER THE INPUT: true; the input reads as it did. -/
def returnsWrongSpec : ChangeSpec := { name := "returnsWrong", fn := fun _ => fun
  | [d1, d2, d3, d4] => { results := [.lit (.bool true)], args := [d1, d2, d3, d4] }
  | _ => none }
def returnsWrongRow : OpenClaim := { program := "ytbiedadgejgnoaa", sum := "538d2ab62d7a41e122162e843b0d1d3f4e9798e2039c8d690613f964379cb37e", func := "rollbook/rollbooklaw20.ReturnsWrong", spec := "returnsWrong", unfollowed := true, recurses := true, apart := false }
def ReturnsWrongSaid : Prop := returnsWrongRow.holds Try.pinned (OpenSpec.ofChange returnsWrongSpec)

/-- ITS FALSE NEIGHBOUR: 'it returns false'. Refute it at one input. -/
def returnsWrongWrong : ChangeSpec := { name := "returnsWrong", fn := fun _ => fun
  | [d1, d2, d3, d4] => { results := [.lit (.bool false)], args := [d1, d2, d3, d4] }
  | _ => none }
def ReturnsWrongWrongFalsely : Prop := returnsWrongRow.holds Try.pinned (OpenSpec.ofChange returnsWrongWrong)

/-- 'rollbooklaw20.ReturnsAllowed': WHATEVER THE INPUT: true; the input reads as it did. -/
def returnsAllowedSpec : ChangeSpec := { name := "returnsAllowed", fn := fun _ => fun
  | [d1, d2, d3, d4] => { results := [.lit (.bool true)], args := [d1, d2, d3, d4] }
  | _ => none }
def returnsAllowedRow : OpenClaim := { program := "ytbiedadgejgnoaa", sum := "538d2ab62d7a41e122162e843b0d1d3f4e9798e2039c8d690613f964379cb37e", func := "rollbook/rollbooklaw20.ReturnsAllowed", spec := "returnsAllowed", unfollowed := true, recurses := true, apart := false }
def ReturnsAllowedSaid : Prop := returnsAllowedRow.holds Try.pinned (OpenSpec.ofChange returnsAllowedSpec)

/-- ITS FALSE NEIGHBOUR: 'it returns false'. Refute it at one input. -/
def returnsAllowedWrong : ChangeSpec := { name := "returnsAllowed", fn := fun _ => fun
  | [d1, d2, d3, d4] => { results := [.lit (.bool false)], args := [d1, d2, d3, d4] }
  | _ => none }
def ReturnsAllowedWrongFalsely : Prop := returnsAllowedRow.holds Try.pinned (OpenSpec.ofChange returnsAllowedWrong)

/-- 'rollbooklaw20.ReturnsLeast': WHATEVER THE INPUT: true; the input reads as it did. -/
def returnsLeastSpec : ChangeSpec := { name := "returnsLeast", fn := fun _ => fun
  | [d1, d2, d3] => { results := [.lit (.bool true)], args := [d1, d2, d3] }
  | _ => none }
def returnsLeastRow : OpenClaim := { program := "ytbiedadgejgnoaa", sum := "538d2ab62d7a41e122162e843b0d1d3f4e9798e2039c8d690613f964379cb37e", func := "rollbook/rollbooklaw20.ReturnsLeast", spec := "returnsLeast", unfollowed := true, recurses := true, apart := false }
def ReturnsLeastSaid : Prop := returnsLeastRow.holds Try.pinned (OpenSpec.ofChange returnsLeastSpec)

/-- ITS FALSE NEIGHBOUR: 'it returns false'. Refute it at one input. -/
def returnsLeastWrong : ChangeSpec := { name := "returnsLeast", fn := fun _ => fun
  | [d1, d2, d3] => { results := [.lit (.bool false)], args := [d1, d2, d3] }
  | _ => none }
def ReturnsLeastWrongFalsely : Prop := returnsLeastRow.holds Try.pinned (OpenSpec.ofChange returnsLeastWrong)

/-- 'rollbooklaw20.ReturnsTruth': WHATEVER THE INPUT: true; the input reads as it did. -/
def returnsTruthSpec : ChangeSpec := { name := "returnsTruth", fn := fun _ => fun
  | [d1, d2, d3, d4] => { results := [.lit (.bool true)], args := [d1, d2, d3, d4] }
  | _ => none }
def returnsTruthRow : OpenClaim := { program := "ytbiedadgejgnoaa", sum := "538d2ab62d7a41e122162e843b0d1d3f4e9798e2039c8d690613f964379cb37e", func := "rollbook/rollbooklaw20.ReturnsTruth", spec := "returnsTruth", unfollowed := true, recurses := true, apart := false }
def ReturnsTruthSaid : Prop := returnsTruthRow.holds Try.pinned (OpenSpec.ofChange returnsTruthSpec)

/-- ITS FALSE NEIGHBOUR: 'it returns false'. Refute it at one input. -/
def returnsTruthWrong : ChangeSpec := { name := "returnsTruth", fn := fun _ => fun
  | [d1, d2, d3, d4] => { results := [.lit (.bool false)], args := [d1, d2, d3, d4] }
  | _ => none }
def ReturnsTruthWrongFalsely : Prop := returnsTruthRow.holds Try.pinned (OpenSpec.ofChange returnsTruthWrong)

/-- 'rollbooklaw20.ReturnsOrder': WHATEVER THE INPUT: true; the input reads as it did. -/
def returnsOrderSpec : ChangeSpec := { name := "returnsOrder", fn := fun _ => fun
  | [d1, d2, d3, d4] => { results := [.lit (.bool true)], args := [d1, d2, d3, d4] }
  | _ => none }
def returnsOrderRow : OpenClaim := { program := "ytbiedadgejgnoaa", sum := "538d2ab62d7a41e122162e843b0d1d3f4e9798e2039c8d690613f964379cb37e", func := "rollbook/rollbooklaw20.ReturnsOrder", spec := "returnsOrder", unfollowed := true, recurses := true, apart := false }
def ReturnsOrderSaid : Prop := returnsOrderRow.holds Try.pinned (OpenSpec.ofChange returnsOrderSpec)

/-- ITS FALSE NEIGHBOUR: 'it returns false'. Refute it at one input. -/
def returnsOrderWrong : ChangeSpec := { name := "returnsOrder", fn := fun _ => fun
  | [d1, d2, d3, d4] => { results := [.lit (.bool false)], args := [d1, d2, d3, d4] }
  | _ => none }
def ReturnsOrderWrongFalsely : Prop := returnsOrderRow.holds Try.pinned (OpenSpec.ofChange returnsOrderWrong)

/-- 'rollbooklaw20.ReturnsAgree': WHATEVER THE INPUT: true; the input reads as it did. -/
def returnsAgreeSpec : ChangeSpec := { name := "returnsAgree", fn := fun _ => fun
  | [d1, d2, d3, d4, d5] => { results := [.lit (.bool true)], args := [d1, d2, d3, d4, d5] }
  | _ => none }
def returnsAgreeRow : OpenClaim := { program := "ytbiedadgejgnoaa", sum := "538d2ab62d7a41e122162e843b0d1d3f4e9798e2039c8d690613f964379cb37e", func := "rollbook/rollbooklaw20.ReturnsAgree", spec := "returnsAgree", unfollowed := true, recurses := true, apart := false }
def ReturnsAgreeSaid : Prop := returnsAgreeRow.holds Try.pinned (OpenSpec.ofChange returnsAgreeSpec)

/-- ITS FALSE NEIGHBOUR: 'it returns false'. Refute it at one input. -/
def returnsAgreeWrong : ChangeSpec := { name := "returnsAgree", fn := fun _ => fun
  | [d1, d2, d3, d4, d5] => { results := [.lit (.bool false)], args := [d1, d2, d3, d4, d5] }
  | _ => none }
def ReturnsAgreeWrongFalsely : Prop := returnsAgreeRow.holds Try.pinned (OpenSpec.ofChange returnsAgreeWrong)

/-- 'rollbooklaw20.ReturnsReasons': WHATEVER THE INPUT: true; the input reads as it did. -/
def returnsReasonsSpec : ChangeSpec := { name := "returnsReasons", fn := fun _ => fun
  | [d1, d2, d3] => { results := [.lit (.bool true)], args := [d1, d2, d3] }
  | _ => none }
def returnsReasonsRow : OpenClaim := { program := "ytbiedadgejgnoaa", sum := "538d2ab62d7a41e122162e843b0d1d3f4e9798e2039c8d690613f964379cb37e", func := "rollbook/rollbooklaw20.ReturnsReasons", spec := "returnsReasons", unfollowed := true, recurses := true, apart := false }
def ReturnsReasonsSaid : Prop := returnsReasonsRow.holds Try.pinned (OpenSpec.ofChange returnsReasonsSpec)

/-- ITS FALSE NEIGHBOUR: 'it returns false'. Refute it at one input. -/
def returnsReasonsWrong : ChangeSpec := { name := "returnsReasons", fn := fun _ => fun
  | [d1, d2, d3] => { results := [.lit (.bool false)], args := [d1, d2, d3] }
  | _ => none }
def ReturnsReasonsWrongFalsely : Prop := returnsReasonsRow.holds Try.pinned (OpenSpec.ofChange returnsReasonsWrong)

/-- 'rollbooklaw20.ReturnsMoves': WHATEVER THE INPUT: true; the input reads as it did. -/
def returnsMovesSpec : ChangeSpec := { name := "returnsMoves", fn := fun _ => fun
  | [d1, d2, d3, d4] => { results := [.lit (.bool true)], args := [d1, d2, d3, d4] }
  | _ => none }
def returnsMovesRow : OpenClaim := { program := "ytbiedadgejgnoaa", sum := "538d2ab62d7a41e122162e843b0d1d3f4e9798e2039c8d690613f964379cb37e", func := "rollbook/rollbooklaw20.ReturnsMoves", spec := "returnsMoves", unfollowed := true, recurses := true, apart := false }
def ReturnsMovesSaid : Prop := returnsMovesRow.holds Try.pinned (OpenSpec.ofChange returnsMovesSpec)

/-- ITS FALSE NEIGHBOUR: 'it returns false'. Refute it at one input. -/
def returnsMovesWrong : ChangeSpec := { name := "returnsMoves", fn := fun _ => fun
  | [d1, d2, d3, d4] => { results := [.lit (.bool false)], args := [d1, d2, d3, d4] }
  | _ => none }
def ReturnsMovesWrongFalsely : Prop := returnsMovesRow.holds Try.pinned (OpenSpec.ofChange returnsMovesWrong)

/-- 'rollbooklaw20.ReturnsChecks': WHATEVER THE INPUT: true; the input reads as it did. -/
def returnsChecksSpec : ChangeSpec := { name := "returnsChecks", fn := fun _ => fun
  | [d1, d2, d3, d4, d5] => { results := [.lit (.bool true)], args := [d1, d2, d3, d4, d5] }
  | _ => none }
def returnsChecksRow : OpenClaim := { program := "ytbiedadgejgnoaa", sum := "538d2ab62d7a41e122162e843b0d1d3f4e9798e2039c8d690613f964379cb37e", func := "rollbook/rollbooklaw20.ReturnsChecks", spec := "returnsChecks", unfollowed := true, recurses := true, apart := false }
def ReturnsChecksSaid : Prop := returnsChecksRow.holds Try.pinned (OpenSpec.ofChange returnsChecksSpec)

/-- ITS FALSE NEIGHBOUR: 'it returns false'. Refute it at one input. -/
def returnsChecksWrong : ChangeSpec := { name := "returnsChecks", fn := fun _ => fun
  | [d1, d2, d3, d4, d5] => { results := [.lit (.bool false)], args := [d1, d2, d3, d4, d5] }
  | _ => none }
def ReturnsChecksWrongFalsely : Prop := returnsChecksRow.holds Try.pinned (OpenSpec.ofChange returnsChecksWrong)

/-- 'rollbooklaw20.ReturnsCarriers': WHATEVER THE INPUT: true; the input reads as it did. -/
def returnsCarriersSpec : ChangeSpec := { name := "returnsCarriers", fn := fun _ => fun
  | [d1, d2, d3] => { results := [.lit (.bool true)], args := [d1, d2, d3] }
  | _ => none }
def returnsCarriersRow : OpenClaim := { program := "ytbiedadgejgnoaa", sum := "538d2ab62d7a41e122162e843b0d1d3f4e9798e2039c8d690613f964379cb37e", func := "rollbook/rollbooklaw20.ReturnsCarriers", spec := "returnsCarriers", unfollowed := true, recurses := true, apart := false }
def ReturnsCarriersSaid : Prop := returnsCarriersRow.holds Try.pinned (OpenSpec.ofChange returnsCarriersSpec)

/-- ITS FALSE NEIGHBOUR: 'it returns false'. Refute it at one input. -/
def returnsCarriersWrong : ChangeSpec := { name := "returnsCarriers", fn := fun _ => fun
  | [d1, d2, d3] => { results := [.lit (.bool false)], args := [d1, d2, d3] }
  | _ => none }
def ReturnsCarriersWrongFalsely : Prop := returnsCarriersRow.holds Try.pinned (OpenSpec.ofChange returnsCarriersWrong)

/- THE SECOND FORM. 'bulk': how many values and letters a reading holds, each counted each time it is reached (what is shared counts as often as it is met; a slice's spare places count too). A statement '..UptoSaid' is the law's where the arguments, and the package variables that the reading takes, are together of bulk at most 1048576: NARROWER than '..Said'. Prove '..Said' where nothing that the law and all that it calls make is longer than what came in: it says more and counts as full. Else prove '..UptoSaid'. A law counts once. -/
mutual
def uptoBulk {H : Type} : DataW H → Nat
  | .lit (.string bytes) => bytes.length + 1
  | .lit _ => 1
  | .nil => 1
  | .ptr d => uptoBulk d + 1
  | .slice elems spare => uptoBulkAll elems + uptoBulkAll spare + 1
  | .agg parts => uptoBulkAll parts + 1
  | .iface _ d => uptoBulk d + 1
  | .map entries => uptoBulkEntries entries + 1
  | .held _ => 1
def uptoBulkAll {H : Type} : List (DataW H) → Nat
  | [] => 0
  | d :: r => uptoBulk d + uptoBulkAll r
def uptoBulkEntries {H : Type} : List (Lit × DataW H) → Nat
  | [] => 0
  | x :: r => uptoBulkEntry x + uptoBulkEntries r
def uptoBulkEntry {H : Type} : Lit × DataW H → Nat
  | (.string bytes, d) => bytes.length + uptoBulk d + 1
  | (_, d) => uptoBulk d + 1
 end
def uptoSmall : (H : Type) → List (DataW H) → Bool := fun _ ds => decide (uptoBulkAll ds ≤ 1048576)
def OpenSpec.upto (s : _root_.Go.ChangeSpec) : _root_.Go.OpenSpec := { _root_.Go.OpenSpec.ofChange s with cond := some uptoSmall }

/-- 'rollbooklaw20.ReturnsWrong', WHERE WHAT IT READS IS OF BULK AT MOST 1048576: true; the input reads as it did. -/
def returnsWrongUptoRow : OpenClaim := { program := "ytbiedadgejgnoaa", sum := "538d2ab62d7a41e122162e843b0d1d3f4e9798e2039c8d690613f964379cb37e", func := "rollbook/rollbooklaw20.ReturnsWrong", spec := "returnsWrong", unfollowed := true, recurses := true, apart := false, narrowed := true }
def ReturnsWrongUptoSaid : Prop := returnsWrongUptoRow.holds Try.pinned (OpenSpec.upto returnsWrongSpec)

/-- 'rollbooklaw20.ReturnsAllowed', WHERE WHAT IT READS IS OF BULK AT MOST 1048576: true; the input reads as it did. -/
def returnsAllowedUptoRow : OpenClaim := { program := "ytbiedadgejgnoaa", sum := "538d2ab62d7a41e122162e843b0d1d3f4e9798e2039c8d690613f964379cb37e", func := "rollbook/rollbooklaw20.ReturnsAllowed", spec := "returnsAllowed", unfollowed := true, recurses := true, apart := false, narrowed := true }
def ReturnsAllowedUptoSaid : Prop := returnsAllowedUptoRow.holds Try.pinned (OpenSpec.upto returnsAllowedSpec)

/-- 'rollbooklaw20.ReturnsLeast', WHERE WHAT IT READS IS OF BULK AT MOST 1048576: true; the input reads as it did. -/
def returnsLeastUptoRow : OpenClaim := { program := "ytbiedadgejgnoaa", sum := "538d2ab62d7a41e122162e843b0d1d3f4e9798e2039c8d690613f964379cb37e", func := "rollbook/rollbooklaw20.ReturnsLeast", spec := "returnsLeast", unfollowed := true, recurses := true, apart := false, narrowed := true }
def ReturnsLeastUptoSaid : Prop := returnsLeastUptoRow.holds Try.pinned (OpenSpec.upto returnsLeastSpec)

/-- 'rollbooklaw20.ReturnsTruth', WHERE WHAT IT READS IS OF BULK AT MOST 1048576: true; the input reads as it did. -/
def returnsTruthUptoRow : OpenClaim := { program := "ytbiedadgejgnoaa", sum := "538d2ab62d7a41e122162e843b0d1d3f4e9798e2039c8d690613f964379cb37e", func := "rollbook/rollbooklaw20.ReturnsTruth", spec := "returnsTruth", unfollowed := true, recurses := true, apart := false, narrowed := true }
def ReturnsTruthUptoSaid : Prop := returnsTruthUptoRow.holds Try.pinned (OpenSpec.upto returnsTruthSpec)

/-- 'rollbooklaw20.ReturnsOrder', WHERE WHAT IT READS IS OF BULK AT MOST 1048576: true; the input reads as it did. -/
def returnsOrderUptoRow : OpenClaim := { program := "ytbiedadgejgnoaa", sum := "538d2ab62d7a41e122162e843b0d1d3f4e9798e2039c8d690613f964379cb37e", func := "rollbook/rollbooklaw20.ReturnsOrder", spec := "returnsOrder", unfollowed := true, recurses := true, apart := false, narrowed := true }
def ReturnsOrderUptoSaid : Prop := returnsOrderUptoRow.holds Try.pinned (OpenSpec.upto returnsOrderSpec)

/-- 'rollbooklaw20.ReturnsAgree', WHERE WHAT IT READS IS OF BULK AT MOST 1048576: true; the input reads as it did. -/
def returnsAgreeUptoRow : OpenClaim := { program := "ytbiedadgejgnoaa", sum := "538d2ab62d7a41e122162e843b0d1d3f4e9798e2039c8d690613f964379cb37e", func := "rollbook/rollbooklaw20.ReturnsAgree", spec := "returnsAgree", unfollowed := true, recurses := true, apart := false, narrowed := true }
def ReturnsAgreeUptoSaid : Prop := returnsAgreeUptoRow.holds Try.pinned (OpenSpec.upto returnsAgreeSpec)

/-- 'rollbooklaw20.ReturnsReasons', WHERE WHAT IT READS IS OF BULK AT MOST 1048576: true; the input reads as it did. -/
def returnsReasonsUptoRow : OpenClaim := { program := "ytbiedadgejgnoaa", sum := "538d2ab62d7a41e122162e843b0d1d3f4e9798e2039c8d690613f964379cb37e", func := "rollbook/rollbooklaw20.ReturnsReasons", spec := "returnsReasons", unfollowed := true, recurses := true, apart := false, narrowed := true }
def ReturnsReasonsUptoSaid : Prop := returnsReasonsUptoRow.holds Try.pinned (OpenSpec.upto returnsReasonsSpec)

/-- 'rollbooklaw20.ReturnsMoves', WHERE WHAT IT READS IS OF BULK AT MOST 1048576: true; the input reads as it did. -/
def returnsMovesUptoRow : OpenClaim := { program := "ytbiedadgejgnoaa", sum := "538d2ab62d7a41e122162e843b0d1d3f4e9798e2039c8d690613f964379cb37e", func := "rollbook/rollbooklaw20.ReturnsMoves", spec := "returnsMoves", unfollowed := true, recurses := true, apart := false, narrowed := true }
def ReturnsMovesUptoSaid : Prop := returnsMovesUptoRow.holds Try.pinned (OpenSpec.upto returnsMovesSpec)

/-- 'rollbooklaw20.ReturnsChecks', WHERE WHAT IT READS IS OF BULK AT MOST 1048576: true; the input reads as it did. -/
def returnsChecksUptoRow : OpenClaim := { program := "ytbiedadgejgnoaa", sum := "538d2ab62d7a41e122162e843b0d1d3f4e9798e2039c8d690613f964379cb37e", func := "rollbook/rollbooklaw20.ReturnsChecks", spec := "returnsChecks", unfollowed := true, recurses := true, apart := false, narrowed := true }
def ReturnsChecksUptoSaid : Prop := returnsChecksUptoRow.holds Try.pinned (OpenSpec.upto returnsChecksSpec)

/-- 'rollbooklaw20.ReturnsCarriers', WHERE WHAT IT READS IS OF BULK AT MOST 1048576: true; the input reads as it did. -/
def returnsCarriersUptoRow : OpenClaim := { program := "ytbiedadgejgnoaa", sum := "538d2ab62d7a41e122162e843b0d1d3f4e9798e2039c8d690613f964379cb37e", func := "rollbook/rollbooklaw20.ReturnsCarriers", spec := "returnsCarriers", unfollowed := true, recurses := true, apart := false, narrowed := true }
def ReturnsCarriersUptoSaid : Prop := returnsCarriersUptoRow.holds Try.pinned (OpenSpec.upto returnsCarriersSpec)

end Rows
end Go.Proofs.Ytbiedadgejgnoaa
