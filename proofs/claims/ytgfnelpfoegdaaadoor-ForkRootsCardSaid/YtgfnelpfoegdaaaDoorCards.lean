/-
  DERIVED. GIVEN WITH THE SEED: THE CARDS: each row of YtgfnelpfoegdaaaDoorRows.lean that lists a variable, with what it lists TIED to the program's text (the seventh form; the later family's looks); each row that meets fmt, with fmt's text TOLD by the authors' own Lean function (tested against real Go, not proved from fmt's source: count such statements apart). THE CARD IS WHAT COUNTS. Prove the row's statement (the work); the ties are given (YtgfnelpfoegdaaaDoorTie.lean); close each card by the builder's one call (the guide's Derived/Test/ToyasCard.lean, 'card_holds'). Laid BY PROGRAM, IN A SANDBOX (cutbox-door.mjs). By AI agents, Wed Nov 11 2026. No macro, syntax, notation, axiom, sorry.
-/
import Derived.Test.YtgfnelpfoegdaaaDoorRows
import GoSem.ClaimSeven
namespace Go.Proofs.YtgfnelpfoegdaaaDoor
namespace Rows

/-- THE TIED CARD OF 'rollbooklaw33.ForkRoots'. -/
def forkRootsCard : Claim7 := { stood := { row := forkRootsRow, standIns := [], harness := (true, "8fad61d0d5986db6bb8911c085f7a90d819412d092d46514daceac0097169e0d"), looks := false }, kinds := [], alts := [], laidByText := true, laidKinds := [.data], laidTests := true, laidLooks := .later }
def ForkRootsCardSaid : Prop := Claim7.holds Tryd.pinned (.plain (OpenSpec.ofChange forkRootsSpec)) forkRootsCard

/-- THE SECOND FORM's CARD OF 'rollbooklaw33.ForkRoots'. -/
def forkRootsUptoCard : Claim7 := { stood := { row := forkRootsUptoRow, standIns := [], harness := (true, "8fad61d0d5986db6bb8911c085f7a90d819412d092d46514daceac0097169e0d"), looks := false }, kinds := [], alts := [], laidByText := true, laidKinds := [.data], laidTests := true, laidLooks := .later }
def ForkRootsUptoCardSaid : Prop := Claim7.holds Tryd.pinned (.plain (OpenSpec.upto forkRootsSpec)) forkRootsUptoCard
end Rows
end Go.Proofs.YtgfnelpfoegdaaaDoor
