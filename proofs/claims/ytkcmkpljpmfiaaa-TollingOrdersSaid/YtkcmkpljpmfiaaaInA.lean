/-
  Lists of spans of the range, end to end; an empty slice of the call's own.
-/
import Derived.Test.YtkcmkpljpmfiaaaTRM
namespace Go.Proofs.Ytkcmkpljpmfiaaa
open Go.RowKit

theorem InR.app {l m : List (Int × Int)} (h : InR l) (h' : InR m) : InR (l ++ m) := fun s hs => by
  rcases List.mem_append.1 hs with hs | hs
  · exact h s hs
  · exact h' s hs
theorem lit0 (W : World) (B : Nat) (hB : B ≤ W.heap.size) : (W.alloc (.cells #[] 40)).ownsRow B 40 2 (.slice (some ⟨W.heap.size, 0, none⟩) 0 0) 0 [] :=
  owns_mono (World.ownsRow_lit W #[] 0 (Nat.le_refl _) (Nat.zero_le _) rfl) hB
theorem lit1 (W : World) (B N : Nat) (hN : W.heap.size = N) (hB : B ≤ W.heap.size) : (W.alloc (.cells #[] 40)).ownsRow B 40 2 (.slice (some ⟨N, 0, none⟩) 0 0) 0 [] := by
  subst hN
  exact lit0 W B hB

end Go.Proofs.Ytkcmkpljpmfiaaa
