/-
  The generators of chapter 17: base, clip, Spans.
-/
import Derived.Test.YtkcmkpljpmfiaaaChk
namespace Go.Proofs.Ytkcmkpljpmfiaaa
open Go.RowKit

def clipF (n : Int) : Int := max 0 (min 3652058 n)
def baseF (n how : Int) : Int := if around how 4 = 0 then around n 60 else if around how 4 = 1 then 3652058 - around n 60 else 739616 + around n 60

theorem clip_any (n : Int) (w : World) : Calls Try.prog 14 #[.int .i64 n] w fun e w' => e = .returned (.int .i64 (clipF n)) ∧ w = w' := by
  go_enter Try.func14, Try.ntmps14
  go_wp2
  go_ret
  exact ⟨rfl, rfl⟩

theorem base_any (n how : Int) (hn : I64 n) (hh : I64 how) (w : World) : Calls Try.prog 12 #[.int .i64 n, .int .i64 how] w fun e w' => e = .returned (.int .i64 (baseF n how)) ∧ w = w' := by
  obtain ⟨R, hR⟩ : ∃ R, baseF n how = R := ⟨_, rfl⟩
  rw [hR]
  have HA := Lib.hid (around_any n 60 hn (by omega) w)
  have HH := Lib.hid (around_any how 4 hh (by omega) w)
  have h1 := around_lo n 60 (by omega)
  have h2 := around_hi n 60 (by omega)
  unfold baseF at hR
  generalize around n 60 = a at *
  generalize around how 4 = h at *
  have hw1 : IntKind.i64.wrap (3652058 - a) = 3652058 - a := by rw [IntKind.wrap_i64]; omega
  have hw2 : IntKind.i64.wrap (739616 + a) = 739616 + a := by rw [IntKind.wrap_i64]; omega
  by_cases h0 : h = 0
  · have HR : Hid (R = a) := by show _ = _; rw [← hR, if_pos h0]
    subst h0
    clear hR
    go_enter Try.func12, Try.ntmps12
    go_wp2_with fail
    refine HH.out.mono ?_
    rintro e w' ⟨rfl, rfl⟩
    go_wp2_with fail
    refine HA.out.mono ?_
    rintro e w' ⟨rfl, rfl⟩
    go_wp2_with fail
    go_ret
    exact ⟨ret_int HR.out.symm, rfl⟩
  · by_cases h3 : h = 1
    · have HR : Hid (R = 3652058 - a) := by show _ = _; rw [← hR, if_neg h0, if_pos h3]
      subst h3
      clear hR h0
      go_enter Try.func12, Try.ntmps12
      go_wp2_with fail
      refine HH.out.mono ?_
      rintro e w' ⟨rfl, rfl⟩
      go_wp2_with fail
      refine HA.out.mono ?_
      rintro e w' ⟨rfl, rfl⟩
      go_wp2_with fail
      go_ret
      exact ⟨ret_int HR.out.symm, rfl⟩
    · have HR : Hid (R = 739616 + a) := by show _ = _; rw [← hR, if_neg h0, if_neg h3]
      have g0 : (h == 0) = false := by simpa using h0
      have g1 : (h == 1) = false := by simpa using h3
      clear hR h0 h3
      go_enter Try.func12, Try.ntmps12
      go_wp2_with fail
      refine HH.out.mono ?_
      rintro e w' ⟨rfl, rfl⟩
      go_wp2_with fail
      refine HA.out.mono ?_
      rintro e w' ⟨rfl, rfl⟩
      go_wp2_with fail
      go_ret
      exact ⟨ret_int HR.out.symm, rfl⟩

theorem baseF_in (n how : Int) : 0 ≤ baseF n how ∧ baseF n how ≤ 3652058 := by
  have h1 := around_lo n 60 (by omega)
  have h2 := around_hi n 60 (by omega)
  unfold baseF
  split
  · omega
  · split <;> omega

theorem clipF_in (n : Int) : 0 ≤ clipF n ∧ clipF n ≤ 3652058 := by unfold clipF; omega

def spanAt (l : List Int) (day : Int) (i : Nat) : Int × Int :=
  (max 0 (min 3652058 (day - 20 + around (l.getD (2 * i) 0) 80)), min 3652058 (max 0 (min 3652058 (day - 20 + around (l.getD (2 * i) 0) 80)) + around (l.getD (2 * i + 1) 0) 15))
def spansTo (l : List Int) (day : Int) (k : Nat) : List (Int × Int) := (List.range k).map (spanAt l day)
def spansF (l : List Int) (day : Int) : List (Int × Int) := spansTo l day (min 6 (l.length / 2))

theorem spanAt_in (l : List Int) (day : Int) (i : Nat) : 0 ≤ (spanAt l day i).1 ∧ (spanAt l day i).1 ≤ (spanAt l day i).2 ∧ (spanAt l day i).2 ≤ 3652058 := by
  have h1 := around_lo (l.getD (2 * i + 1) 0) 15 (by omega)
  unfold spanAt
  simp only
  omega
theorem spansTo_succ (l : List Int) (day : Int) (k : Nat) : spansTo l day (k + 1) = spansTo l day k ++ [spanAt l day k] := by
  unfold spansTo; rw [List.range_succ, List.map_append]; rfl
theorem spansF_in (l : List Int) (day : Int) : ∀ x ∈ spansF l day, 0 ≤ x.1 ∧ x.1 ≤ x.2 ∧ x.2 ≤ 3652058 := by
  intro x hx
  obtain ⟨i, -, rfl⟩ := List.mem_map.1 hx
  exact spanAt_in l day i
theorem spansF_len (l : List Int) (day : Int) : (spansF l day).length ≤ 6 := by
  unfold spansF spansTo
  rw [List.length_map, List.length_range]
  omega

set_option maxHeartbeats 2000000 in
set_option maxRecDepth 100000 in
theorem spans_any (l : List Int) (v : Value) (day : Int) (w : World) (hx : IsInts w v l) (hw : ∀ x ∈ l, I64 x) (hd : 0 ≤ day ∧ day ≤ 4000000) :
    Calls Try.prog 13 #[v, .int .i64 day] w fun e w' => ∃ v', e = .returned v' ∧ IsSps w' v' (spansF l day) ∧ Below w.heap.size w w' := by
  obtain ⟨ad, cap, rfl, hlm, -, hc⟩ := hx.open
  unfold maxLen at hlm
  have HC := Lib.hid hc
  have HW := Lib.hid hw
  obtain ⟨hd0, hd1⟩ := hd
  have hwd : IntKind.i64.wrap (day - 20) = day - 20 := by rw [IntKind.wrap_i64]; omega
  clear hx hw hc
  go_enter Try.func13, Try.ntmps13
  go_wp2_with fail
  go_loopw [5, 6] (fun a i wr => ∃ (j : Nat) (v5 : Value), v5 = a ∧ i = .int .i64 ((2 * j : Nat) : Int) ∧ j ≤ 6 ∧ 2 * j ≤ l.length ∧ Hid (wr.ownsRow w.heap.size 40 2 v5 j (spCells (spansTo l day j))) ∧ w.heap.size ≤ wr.heap.size ∧ Hid (Below w.heap.size w wr)) (fun _ i _ => 20 - (intOf i).toNat)
  case atStart => exact ⟨0, _, rfl, rfl, by omega, by omega, Lib.hid (World.ownsRow_nil _ _ _ _), Nat.le_refl _, Lib.hid (Below.refl _ _)⟩
  case round =>
    obtain ⟨j, v5, rfl, rfl, hj6, hjl, HOW, hsz, HBR⟩ := hrel
    have hw2 : IntKind.i64.wrap (((2 * j : Nat) : Int) + 1) = ((2 * j + 1 : Nat) : Int) := by rw [IntKind.wrap_i64]; omega
    by_cases hgo : ((2 * j + 1 : Nat) : Int) < (l.length : Int) ∧ ((2 * j : Nat) : Int) < 12
    · obtain ⟨hg1, hg2⟩ := hgo
      have hn0 : 2 * j < l.length := by omega
      have hn1 : 2 * j + 1 < l.length := by omega
      obtain ⟨b, o, rfl, c0⟩ := HC.out (2 * j) hn0
      obtain ⟨b', o', e', c1⟩ := HC.out (2 * j + 1) hn1
      simp only [Option.some.injEq, Addr.mk.injEq, and_true] at e'
      obtain ⟨rfl, rfl⟩ := e'
      have hlt := World.block_lt_of_cell? _ _ c0
      have C0 := (HBR.out.cell hlt).trans c0
      have C1 := (HBR.out.cell (p := ⟨b, o + (2 * j + 1), none⟩) hlt).trans c1
      have HA0 := Lib.hid (around_any l[2 * j] 80 (HW.out _ (List.getElem_mem hn0)) (by omega) wr)
      have HA1 := Lib.hid (around_any l[2 * j + 1] 15 (HW.out _ (List.getElem_mem hn1)) (by omega) wr)
      have HSP : Hid (spanAt l day j = (max 0 (min 3652058 (day - 20 + around l[2 * j] 80)), min 3652058 (max 0 (min 3652058 (day - 20 + around l[2 * j] 80)) + around l[2 * j + 1] 15))) := by
        show _ = _
        unfold spanAt
        rw [List.getD_eq_getElem?_getD, List.getD_eq_getElem?_getD, List.getElem?_eq_getElem hn0, List.getElem?_eq_getElem hn1]
        rfl
      have ha0 := around_lo l[2 * j] 80 (by omega)
      have ha1 := around_hi l[2 * j] 80 (by omega)
      have hb0 := around_lo l[2 * j + 1] 15 (by omega)
      have hb1 := around_hi l[2 * j + 1] 15 (by omega)
      generalize around l[2 * j] 80 = x at *
      generalize around l[2 * j + 1] 15 = y at *
      generalize l[2 * j] = l0 at *
      generalize l[2 * j + 1] = l1 at *
      have q1 : IntKind.i64.wrap (day - 20 + x) = day - 20 + x := by rw [IntKind.wrap_i64]; omega
      have q2 : IntKind.i64.wrap (max 0 (min 3652058 (day - 20 + x)) + y) = max 0 (min 3652058 (day - 20 + x)) + y := by rw [IntKind.wrap_i64]; omega
      obtain ⟨av, cv, rfl, -, -⟩ := owns_slice HOW.out
      clear c0 c1
      go_wp2_with fail
      refine HA0.out.mono ?_
      rintro e w' ⟨rfl, rfl⟩
      go_wp2_with fail
      refine HA1.out.mono ?_
      rintro e w' ⟨rfl, rfl⟩
      obtain ⟨F, hF⟩ : ∃ F, max 0 (min 3652058 (day - 20 + x)) = F := ⟨_, rfl⟩
      obtain ⟨U, hU⟩ : ∃ U, min 3652058 (F + y) = U := ⟨_, rfl⟩
      rw [hF] at HSP q2 ⊢
      rw [hU] at HSP
      have HLIT : Hid (∀ W : World, Rd (W.alloc (.cells (litSp (F, U)) 40)) (.slice (some ⟨W.heap.size, 0, none⟩) 1 1) 2 1 (spRow (F, U))) := fun W => Rd.lit W (litSp (F, U)) 40 2 1 rfl (by unfold maxLen; omega)
      clear hF
      go_wp2_with (at_builtin; go_must (refine wpList_append_rd rfl _ _ 24 rfl w.heap.size 40 _ 2 16 Try.underlying24 infoSp rfl (by decide) (.slice av j cv) j (spCells (spansTo l day j)) rfl (owns_below HOW.out ?GHB) _ 1 (spRow (F, U)) rfl (HLIT.out _) (spCells_one [(F, U)]) ?GB1 ?GB2 ?GB3 ?_))
      case GHB => exact (Below.refl _ _).alloc (Nat.le_refl _) _
      case GB1 => unfold maxLen; omega
      case GB2 => omega
      case GB3 => simp; omega
      intro v8 w8 hv8 hg8
      have hb8 := below_append (Below.to HBR.out ((Below.refl _ _).alloc (Nat.le_refl _) _) hsz) (owns_below HOW.out ((Below.refl _ _).alloc (Nat.le_refl _) _)) hg8 (by simp; omega)
      have HB8 := Lib.hid hb8
      have HO8 : Hid (w8.ownsRow w.heap.size 40 2 v8 (j + 1) (spCells (spansTo l day (j + 1)))) := by
        show World.ownsRow _ _ _ _ _ _ _
        rw [spansTo_succ, HSP.out, spCells_append, spCells_single]
        exact hv8
      have hs8 := hb8.size
      clear hv8 hg8 hb8
      go_wp2_with fail
      go_roundw
      case rel => exact ⟨j + 1, _, rfl, by go_num, by omega, by omega, HO8, by simpa using hs8, HB8⟩
      case measure => simp [intOf]; omega
    · have hj : j = min 6 (l.length / 2) := by omega
      have HV : Hid (IsSps wr v5 (spansF l day)) := by
        show IsSps _ _ _
        unfold spansF
        rw [← hj]
        exact IsSps.of_owns HOW.out
      clear HOW
      have hparts : ¬ ((2 * j + 1 : Nat) : Int) < (l.length : Int) ∨ (((2 * j + 1 : Nat) : Int) < (l.length : Int) ∧ ¬ ((2 * j : Nat) : Int) < 12) := by omega
      rcases hparts with hg | ⟨hg, hg'⟩
      all_goals
        clear hgo hj
        go_wp2_with fail
        go_ret
        exact ⟨_, rfl, HV.out, HBR.out⟩

end Go.Proofs.Ytkcmkpljpmfiaaa
