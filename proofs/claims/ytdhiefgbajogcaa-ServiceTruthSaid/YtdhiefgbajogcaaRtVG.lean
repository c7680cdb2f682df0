/-
  The program's Served.
  Pick. (the seat of chapter 21)
  Around and Pick of rollbookref03.
-/
import Derived.Test.YtdhiefgbajogcaaRtL
import Derived.Test.YtdhiefgbajogcaaSpA
namespace Go.Proofs.Ytdhiefgbajogcaa
open Go.RowKit

theorem served_any (l : List Ret) (cs : List (Int × Int)) (v u : Value) (sent : Int) (w : World) (hx : IsRts w v l) (hy : IsSps w u cs) (hl : l.length ≤ 32) (hcl : cs.length ≤ 1000) (hr : RetsOk cs.length l) (hc : CarOk cs) (hs0 : 0 ≤ sent) (hs : sent ≤ 3652058) :
    Calls Try.prog 26 #[v, u, .int .i64 sent] w fun e w' => ∃ (x : Int) (b : Bool), e = .returned (.tuple #[.int .i64 x, .bool b]) ∧ ∃ out nv, Hid (Alw l cs sent out nv) ∧ Hid ((x, b) = servedF out nv) ∧ Below w.heap.size w w' := by
  have HA := Lib.hid (allowed_any l cs v u sent w hx hy hl hcl hr hc hs0 hs)
  obtain ⟨a0, c0, rfl, -, -⟩ := hx.open
  obtain ⟨a1, c1, rfl, -, -, -⟩ := hy.open
  clear hx hy hr hc
  go_enter Try.func26, Try.ntmps26
  go_wp2_with fail
  refine HA.out.mono ?_
  rintro e w1 ⟨v1, nv, rfl, out, HALW, hv1, hb1⟩
  have HB1 := Lib.hid hb1
  cases nv with
  | true =>
    have HR : Hid (((0 : Int), false) = servedF out true) := (servedF_none (.inl rfl)).symm
    clear hv1 hb1 HA
    go_wp2_with fail
    go_ret2
    exact ⟨0, false, rfl, out, true, HALW, HR, HB1.out⟩
  | false =>
    obtain ⟨av, cv, rfl, hm, -, -⟩ := hv1.open
    unfold maxLen at hm
    by_cases h0 : out.length = 0
    · have hn : out = [] := List.eq_nil_of_length_eq_zero h0
      subst hn
      have HR : Hid (((0 : Int), false) = servedF [] false) := (servedF_none (.inr rfl)).symm
      clear hv1 hb1 HA h0
      go_wp2_with fail
      go_ret2
      exact ⟨0, false, rfl, [], false, HALW, HR, HB1.out⟩
    · have hpos : 0 < out.length := by omega
      have HR := Lib.hid (servedF_some hpos)
      obtain ⟨b5, o5, q5, e5, -, -, d1⟩ := hv1.at (k := out.length - 1) (by omega)
      simp only [Value.slice.injEq, true_and] at e5
      obtain ⟨rfl, -⟩ := e5
      have hz : (out.length == 0) = false := by simpa using h0
      have hsub : IntKind.i64.wrap ((out.length : Int) - 1) = ((out.length - 1 : Nat) : Int) := by rw [IntKind.wrap_i64]; omega
      have hlt : ((out.length - 1 : Nat) : Int) < (out.length : Int) := by omega
      generalize out[out.length - 1].2 = y at *
      clear hv1 hb1 HA h0
      generalize hn : out.length - 1 = n at *
      have HN := Lib.hid hn
      clear hn
      go_wp2_with fail
      go_ret2
      exact ⟨y, true, rfl, out, false, HALW, HR.out.symm, HB1.out⟩

end Go.Proofs.Ytdhiefgbajogcaa

namespace Go.Proofs.Ytdhiefgbajogcaa
open Go.RowKit

def pickF (l : List Int) (i : Nat) (most : Int) : Int := match l[i]? with
  | none => 0
  | some x => around x most
theorem pickF_in (l : List Int) (i : Nat) (most : Int) (h : 0 < most) : 0 ≤ pickF l i most ∧ pickF l i most < most := by
  unfold pickF
  cases l[i]? with
  | none => exact ⟨Int.le_refl _, h⟩
  | some x => exact ⟨around_lo x most h, around_hi x most h⟩

theorem pick_any (l : List Int) (v : Value) (i : Nat) (most : Int) (w : World) (hx : IsInts w v l) (hl : ∀ x ∈ l, I64 x) (_hi : i ≤ 1000000) (h1 : 0 < most) (h2 : most ≤ 1000000000) :
    Calls Try.prog 32 #[v, .int .i64 i, .int .i64 most] w fun e w' => e = .returned (.int .i64 (pickF l i most)) ∧ w = w' := by
  obtain ⟨a, cap, rfl, hm, -, hc⟩ := hx.open
  unfold maxLen at hm
  by_cases hil : i < l.length
  · obtain ⟨b, o, rfl, d0⟩ := hc i hil
    have HA := Lib.hid (around_any l[i] most (hl _ (List.getElem_mem hil)) (by omega) w)
    have HR : Hid (pickF l i most = around l[i] most) := by show _ = _; unfold pickF; rw [List.getElem?_eq_getElem hil]
    have hge : ¬ (l.length : Int) ≤ (i : Int) := by omega
    clear hx hc hl
    generalize l[i] = x at *
    go_enter Try.func32, Try.ntmps32
    go_wp2_with fail
    refine HA.out.mono ?_
    rintro e w' ⟨rfl, rfl⟩
    go_wp2_with fail
    go_ret
    exact ⟨ret_int HR.out.symm, rfl⟩
  · have HR : Hid (pickF l i most = 0) := by show _ = _; unfold pickF; rw [List.getElem?_eq_none (by omega)]
    have hge : (l.length : Int) ≤ (i : Int) := by omega
    clear hx hc hl
    go_enter Try.func32, Try.ntmps32
    go_wp2_with fail
    go_ret
    exact ⟨ret_int HR.out.symm, rfl⟩

end Go.Proofs.Ytdhiefgbajogcaa

namespace Go.Proofs.Ytdhiefgbajogcaa
open Go.RowKit

set_option maxHeartbeats 400000 in
theorem around3_any (n most : Int) (hn : I64 n) (h1 : 1 ≤ most) (w : World) :
    Calls Try.prog 42 #[.int .i64 n, .int .i64 most] w fun e w' => e = .returned (.int .i64 (around n most)) ∧ w = w' := by
  unfold I64 at hn
  obtain ⟨hn1, hn2⟩ := hn
  have hz : (most == 0) = false := by simp; omega
  by_cases h0 : n < 0
  · go_enter Try.func42, Try.ntmps42
    go_wp2
    go_ret
    exact ⟨ret_int (around_neg _ _ h0), rfl⟩
  · go_enter Try.func42, Try.ntmps42
    go_wp2
    go_ret
    exact ⟨ret_int (around_pos _ _ (by omega)), rfl⟩


theorem pick3_any (l : List Int) (v : Value) (i : Nat) (most : Int) (w : World) (hx : IsInts w v l) (hl : ∀ x ∈ l, I64 x) (_hi : i ≤ 1000000) (h1 : 0 < most) (h2 : most ≤ 1000000000) :
    Calls Try.prog 28 #[v, .int .i64 i, .int .i64 most] w fun e w' => e = .returned (.int .i64 (pickF l i most)) ∧ w = w' := by
  obtain ⟨a, cap, rfl, hm, -, hc⟩ := hx.open
  unfold maxLen at hm
  by_cases hil : i < l.length
  · obtain ⟨b, o, rfl, d0⟩ := hc i hil
    have HA := Lib.hid (around3_any l[i] most (hl _ (List.getElem_mem hil)) (by omega) w)
    have HR : Hid (pickF l i most = around l[i] most) := by show _ = _; unfold pickF; rw [List.getElem?_eq_getElem hil]
    have hge : ¬ (l.length : Int) ≤ (i : Int) := by omega
    clear hx hc hl
    generalize l[i] = x at *
    go_enter Try.func28, Try.ntmps28
    go_wp2_with fail
    refine HA.out.mono ?_
    rintro e w' ⟨rfl, rfl⟩
    go_wp2_with fail
    go_ret
    exact ⟨ret_int HR.out.symm, rfl⟩
  · have HR : Hid (pickF l i most = 0) := by show _ = _; unfold pickF; rw [List.getElem?_eq_none (by omega)]
    have hge : (l.length : Int) ≤ (i : Int) := by omega
    clear hx hc hl
    go_enter Try.func28, Try.ntmps28
    go_wp2_with fail
    go_ret
    exact ⟨ret_int HR.out.symm, rfl⟩

end Go.Proofs.Ytdhiefgbajogcaa
