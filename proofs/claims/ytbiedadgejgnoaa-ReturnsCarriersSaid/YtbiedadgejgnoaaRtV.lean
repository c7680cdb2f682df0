/-
  The program's Served.
-/
import Derived.Test.YtbiedadgejgnoaaRtL
namespace Go.Proofs.Ytbiedadgejgnoaa
open Go.RowKit

theorem served_any (l : List Ret) (cs : List (Int × Int)) (v u : Value) (sent : Int) (w : World) (hx : IsRts w v l) (hy : IsSps w u cs) (hl : l.length ≤ 32) (hcl : cs.length ≤ 1000) (hr : RetsOk cs.length l) (hc : CarOk cs) (hs0 : 0 ≤ sent) (hs : sent ≤ 3652058) :
    Calls Try.prog 20 #[v, u, .int .i64 sent] w fun e w' => ∃ (x : Int) (b : Bool), e = .returned (.tuple #[.int .i64 x, .bool b]) ∧ ∃ out nv, Hid (Alw l cs sent out nv) ∧ Hid ((x, b) = servedF out nv) ∧ Below w.heap.size w w' := by
  have HA := Lib.hid (allowed_any l cs v u sent w hx hy hl hcl hr hc hs0 hs)
  obtain ⟨a0, c0, rfl, -, -⟩ := hx.open
  obtain ⟨a1, c1, rfl, -, -, -⟩ := hy.open
  clear hx hy hr hc
  go_enter Try.func20, Try.ntmps20
  go_wp2_with fail
  refine HA.out.mono ?_
  rintro e w1 ⟨v1, nv, rfl, out, HALW, hv1, hb1⟩
  have HB1 := Lib.hid hb1
  cases nv with
  | true =>
    have HR : Hid (((0 : Int), false) = servedF out true) := (servedF_none (.inl rfl)).symm
    clear hv1 hb1 HA
    go_wp2_with fail
    go_ret2
    exact ⟨0, false, rfl, out, true, HALW, HR, HB1.out⟩
  | false =>
    obtain ⟨av, cv, rfl, hm, -, -⟩ := hv1.open
    unfold maxLen at hm
    by_cases h0 : out.length = 0
    · have hn : out = [] := List.eq_nil_of_length_eq_zero h0
      subst hn
      have HR : Hid (((0 : Int), false) = servedF [] false) := (servedF_none (.inr rfl)).symm
      clear hv1 hb1 HA h0
      go_wp2_with fail
      go_ret2
      exact ⟨0, false, rfl, [], false, HALW, HR, HB1.out⟩
    · have hpos : 0 < out.length := by omega
      have HR := Lib.hid (servedF_some hpos)
      obtain ⟨b5, o5, q5, e5, -, -, d1⟩ := hv1.at (k := out.length - 1) (by omega)
      simp only [Value.slice.injEq, true_and] at e5
      obtain ⟨rfl, -⟩ := e5
      have hz : (out.length == 0) = false := by simpa using h0
      have hsub : IntKind.i64.wrap ((out.length : Int) - 1) = ((out.length - 1 : Nat) : Int) := by rw [IntKind.wrap_i64]; omega
      have hlt : ((out.length - 1 : Nat) : Int) < (out.length : Int) := by omega
      generalize out[out.length - 1].2 = y at *
      clear hv1 hb1 HA h0
      generalize hn : out.length - 1 = n at *
      have HN := Lib.hid hn
      clear hn
      go_wp2_with fail
      go_ret2
      exact ⟨y, true, rfl, out, false, HALW, HR.out.symm, HB1.out⟩

end Go.Proofs.Ytbiedadgejgnoaa
