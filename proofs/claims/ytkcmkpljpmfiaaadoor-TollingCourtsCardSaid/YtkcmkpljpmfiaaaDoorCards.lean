/-
  DERIVED. GIVEN WITH THE SEED: THE CARDS: each row of YtkcmkpljpmfiaaaDoorRows.lean that lists a variable, with what it lists TIED to the program's text (the seventh form; the later family's looks); each row that meets fmt, with fmt's text TOLD by the authors' own Lean function (tested against real Go, not proved from fmt's source: count such statements apart). THE CARD IS WHAT COUNTS. Prove the row's statement (the work); the ties are given (YtkcmkpljpmfiaaaDoorTie.lean); close each card by the builder's one call (the guide's Derived/Test/ToyasCard.lean, 'card_holds'). Laid BY PROGRAM, IN A SANDBOX (cutbox-door.mjs). By AI agents, Wed Nov 11 2026. No macro, syntax, notation, axiom, sorry.
-/
import Derived.Test.YtkcmkpljpmfiaaaDoorRows
import GoSem.ClaimSeven
namespace Go.Proofs.YtkcmkpljpmfiaaaDoor
namespace Rows

/-- THE TIED CARD OF 'rollbooklaw17.TollingCourts'. -/
def tollingCourtsCard : Claim7 := { stood := { row := tollingCourtsRow, standIns := [], harness := (true, "a9e8e8c1545d8af1ac222b61c5080465a0962fd962546bf314fcb46e665e40ca"), looks := false }, kinds := [], alts := [], laidByText := true, laidKinds := [.data, .data], laidTests := true, laidLooks := .later }
def TollingCourtsCardSaid : Prop := Claim7.holds Tryd.pinned (.plain (OpenSpec.ofChange tollingCourtsSpec)) tollingCourtsCard

/-- THE SECOND FORM's CARD OF 'rollbooklaw17.TollingCourts'. -/
def tollingCourtsUptoCard : Claim7 := { stood := { row := tollingCourtsUptoRow, standIns := [], harness := (true, "a9e8e8c1545d8af1ac222b61c5080465a0962fd962546bf314fcb46e665e40ca"), looks := false }, kinds := [], alts := [], laidByText := true, laidKinds := [.data, .data], laidTests := true, laidLooks := .later }
def TollingCourtsUptoCardSaid : Prop := Claim7.holds Tryd.pinned (.plain (OpenSpec.upto tollingCourtsSpec)) tollingCourtsUptoCard
end Rows
end Go.Proofs.YtkcmkpljpmfiaaaDoor
