/-
  What the laws need of the attempts that the generator makes. No program in sight.
-/
import Derived.Test.YtdhiefgbajogcaaAtG
import Derived.Test.YtdhiefgbajogcaaSvQ
namespace Go.Proofs.Ytdhiefgbajogcaa
open Go.RowKit

theorem GenAt.ok {n : Nat} {a : At} (h : GenAt n a) : AtOk n a := by
  obtain ⟨h1, h2, h3, h4, h5, h6, -⟩ := h
  exact AtOk.of ⟨by omega, by omega, by omega, by omega⟩ h5 (by omega)

theorem GenAts.ok {n : Nat} {l : List At} (h : GenAts n l) : AtsOk n l := fun a ha => (h a ha).ok

/-- One function says of every attempt when it is served. -/
theorem svd_all (cs : List (Int × Int)) : ∃ f : At → Int × Bool, ∀ a : At, 0 ≤ a.sent ∧ a.sent ≤ 3652058 → Svd a.own cs a.sent (f a) :=
  Classical.axiomOfChoice (r := fun (a : At) (r : Int × Bool) => 0 ≤ a.sent ∧ a.sent ≤ 3652058 → Svd a.own cs a.sent r) fun a => by
    rcases Classical.em (0 ≤ a.sent ∧ a.sent ≤ 3652058) with h | h
    · obtain ⟨r, hr⟩ := svd_exists a.own cs h.1 h.2
      exact ⟨r, fun _ => hr⟩
    · exact ⟨(0, false), fun g => absurd g h⟩

theorem AtsOk.sent {n : Nat} {l : List At} (h : AtsOk n l) {a : At} (ha : a ∈ l) : 0 ≤ a.sent ∧ a.sent ≤ 3652058 := (h a ha).head.2.2.2

end Go.Proofs.Ytdhiefgbajogcaa
