/-
  The law ReturnsCarriers: its walk.
-/
import Derived.Test.YtbiedadgejgnoaaRcR
import Derived.Test.YtbiedadgejgnoaaCrG
import Derived.Test.YtbiedadgejgnoaaRtL
import Derived.Test.YtbiedadgejgnoaaRtX
import Derived.Test.YtbiedadgejgnoaaRtY
import Derived.Test.YtbiedadgejgnoaaRtU
import Derived.Test.YtbiedadgejgnoaaMg2
namespace Go.Proofs.Ytbiedadgejgnoaa
open Go.RowKit

theorem infoPap : (Try.prog.info? 53).map (fun i => (i.zero, i.size, i.bytes)) = some (some (.agg #[.int .i64 0, .int .i64 0, .int .i64 0, .int .i64 0]), 4, 32) := by kernel_rfl
theorem infoWay : (Try.prog.info? 55).map (fun i => (i.zero, i.size, i.bytes)) = some (some (.agg #[.int .i64 0, .int .i64 0, .int .i64 0, .int .i64 0]), 4, 32) := by kernel_rfl

/-- The call's own rows while the papers are made. -/
structure RcB (X W : World) (vp vw : Value) (l : List Int) (k : Nat) : Prop where
  pap : W.ownsRow X.heap.size 53 4 vp k (rtCells (rcPaps l k))
  way : W.ownsRow X.heap.size 55 4 vw (rcWays l k).length (rtCells (rcWays l k))
  bel : Below X.heap.size X W
/-- One paper more than ways were asked for. -/
structure RcC (X W : World) (vp vw : Value) (l : List Int) (k : Nat) : Prop where
  pap : W.ownsRow X.heap.size 53 4 vp (k + 1) (rtCells (rcPaps l (k + 1)))
  way : W.ownsRow X.heap.size 55 4 vw (rcWays l k).length (rtCells (rcWays l k))
  bel : Below X.heap.size X W
theorem RcB.below {X W W' : World} {vp vw : Value} {l : List Int} {k : Nat} (h : RcB X W vp vw l k) (hb : Below W.heap.size W W') : RcB X W' vp vw l k :=
  ⟨owns_below h.pap hb, owns_below h.way hb, Below.to h.bel hb h.bel.size⟩
theorem RcC.below {X W W' : World} {vp vw : Value} {l : List Int} {k : Nat} (h : RcC X W vp vw l k) (hb : Below W.heap.size W W') : RcC X W' vp vw l k :=
  ⟨owns_below h.pap hb, owns_below h.way hb, Below.to h.bel hb h.bel.size⟩
theorem rcPaps_cells (l : List Int) (k : Nat) : rtCells (rcPaps l (k + 1)) = rtCells (rcPaps l k) ++ rtRow (rcPap l k) := by rw [rcPaps_S, rtCells_append, rtCells_single]
theorem RcB.pap1 {X W W' : World} {vp vp' vw : Value} {l : List Int} {k : Nat} (h : RcB X W vp vw l k)
    (hv : W'.ownsRow X.heap.size 53 4 vp' (k + 1) (rtCells (rcPaps l k) ++ rtRow (rcPap l k))) (hg : W.grownBy W' vp.ownBlock) : RcC X W' vp' vw l k :=
  ⟨by rw [rcPaps_cells]; exact hv, h.way.kept hg (owns_apart h.way h.pap (by decide)), below_append h.bel h.pap hg h.bel.size⟩
theorem RcC.way0 {X W : World} {vp vw : Value} {l : List Int} {k : Nat} (h : RcC X W vp vw l k) (hh : rcHas l k = false) : RcB X W vp vw l (k + 1) := by
  have e : rcWays l (k + 1) = rcWays l k := by rw [rcWays_S, hh]; simp
  exact ⟨h.pap, by rw [e]; exact h.way, h.bel⟩
theorem RcC.way1 {X W W' : World} {vp vw vw' : Value} {l : List Int} {k : Nat} (h : RcC X W vp vw l k) (hh : rcHas l k = true)
    (hv : W'.ownsRow X.heap.size 55 4 vw' ((rcWays l k).length + 1) (rtCells (rcWays l k) ++ rtRow (rcWay l k))) (hg : W.grownBy W' vw.ownBlock) : RcB X W' vp vw' l (k + 1) := by
  have e : rcWays l (k + 1) = rcWays l k ++ [rcWay l k] := by rw [rcWays_S, hh]; simp
  refine ⟨h.pap.kept hg (owns_apart h.pap h.way (by decide)), ?_, below_append h.bel h.way hg h.bel.size⟩
  rw [e, List.length_append, rtCells_append, rtCells_single]
  exact hv

set_option maxHeartbeats 8000000 in
set_option maxRecDepth 100000 in
theorem returnsCarriers_any (l : List Int) (v : Value) (tol ut : Int) (w : World) (hx : IsInts w v l) (hl : ∀ x ∈ l, I64 x) (ht : I64 tol) (hu : I64 ut) :
    Calls Try.prog 12 #[v, .int .i64 tol, .int .i64 ut] w fun e w' => e = .returned (.bool true) ∧ Below w.heap.size w w' := by
  obtain ⟨a1, c1, rfl, -, -, -⟩ := hx.open
  have HX := Lib.hid hx
  have HL := Lib.hid hl
  have HT := Lib.hid ht
  have HU := Lib.hid hu
  clear hx hl ht hu
  have HTB : Hid (RcB w w (.slice none 0 0) (.slice none 0 0) l 0) := ⟨World.ownsRow_nil _ _ _ _, World.ownsRow_nil _ _ _ _, Below.refl _ _⟩
  go_enter Try.func12, Try.ntmps12
  go_wp2_with fail
  go_loopw [7, 8, 9] (fun p q i wr => ∃ (k : Nat) (vp vw : Value), vp = p ∧ vw = q ∧ i = .int .i64 k ∧ k ≤ 6 ∧ k ≤ l.length ∧ Hid (RcB w wr vp vw l k)) (fun _ _ i _ => l.length - (intOf i).toNat)
  case atStart => exact ⟨0, _, _, rfl, rfl, rfl, by omega, Nat.zero_le _, HTB⟩
  case round =>
    obtain ⟨k, vp, vw, rfl, rfl, rfl, hk6, hk, HB⟩ := hrel
    have ek : IntKind.i64.wrap ((k : Int) + 1) = ((k + 1 : Nat) : Int) := by rw [IntKind.wrap_i64]; omega
    by_cases hkl : k < l.length ∧ k < 6
    · obtain ⟨hkl, hk7⟩ := hkl
      have hkI : (k : Int) < (l.length : Int) := by omega
      have hkJ : (k : Int) < 6 := by omega
      have hxr := HX.out.below HB.out.bel
      obtain ⟨a, cap, e0, -, -, hc⟩ := hxr.open
      simp only [Value.slice.injEq, true_and] at e0
      obtain ⟨rfl, rfl⟩ := e0
      obtain ⟨b, o, rfl, d0⟩ := hc k hkl
      have HNU : Hid (∀ W, Calls Try.prog 14 #[.int .i64 l[k], .int .i64 1000000] W fun e w' => e = .returned (.int .i64 (numF l k)) ∧ W = w') := fun W => by
        have e : numF l k = around l[k] 1000000 := by unfold numF; rw [List.getD_eq_getElem?_getD, List.getElem?_eq_getElem hkl]; rfl
        rw [e]
        exact around_any l[k] 1000000 (HL.out _ (List.getElem_mem hkl)) (by omega) W
      have hnu := numF_in l k
      have HPP : Hid (rcPap l k = ⟨(k : Int), numF l k % 4, 0, 739616 + numF l k / 4 % 10⟩) := rfl
      have HWW : Hid (rcWay l k = ⟨(k : Int), numF l k / 40 % 7, numF l k / 280 % 9, (numF l k + 1) % 4⟩) := by
        show _ = _
        unfold rcWay
        rw [show (numF l k % 4 + 1) % 4 = (numF l k + 1) % 4 by omega]
      have HHS : Hid (rcHas l k = decide (numF l k / 40 % 7 < 6)) := rfl
      generalize l[k] = x at *
      obtain ⟨z, hz⟩ : ∃ z, numF l k = z := ⟨_, rfl⟩
      rw [hz] at HNU hnu HPP HWW HHS
      have m1 : z.tmod 4 = z % 4 := Int.tmod_eq_emod_of_nonneg hnu.1
      have m2 : z.tdiv 4 = z / 4 := Int.tdiv_eq_ediv_of_nonneg hnu.1
      have m3 : z.tdiv 40 = z / 40 := Int.tdiv_eq_ediv_of_nonneg hnu.1
      have m4 : z.tdiv 280 = z / 280 := Int.tdiv_eq_ediv_of_nonneg hnu.1
      have m5 : (z / 4).tmod 10 = z / 4 % 10 := Int.tmod_eq_emod_of_nonneg (by omega)
      have m6 : (z / 40).tmod 7 = z / 40 % 7 := Int.tmod_eq_emod_of_nonneg (by omega)
      have m7 : (z / 280).tmod 9 = z / 280 % 9 := Int.tmod_eq_emod_of_nonneg (by omega)
      have m8 : (z % 4 + 1).tmod 4 = (z % 4 + 1) % 4 := Int.tmod_eq_emod_of_nonneg (by omega)
      obtain ⟨a7, c7, rfl, -, -⟩ := owns_slice HB.out.pap
      obtain ⟨a8, c8, rfl, -, -⟩ := owns_slice HB.out.way
      have hwl := rcWays_len l k
      obtain ⟨q, hq⟩ : ∃ q, (rcWays l k).length = q := ⟨_, rfl⟩
      rw [hq] at HB ⊢
      rw [hq] at hwl
      have HQ := Lib.hid hq
      have HLP : Hid (∀ (W : World), Rd (W.alloc (.cells #[.int .i64 (k : Int), .int .i64 (z % 4), .int .i64 0, .int .i64 (739616 + z / 4 % 10)] 53)) (.slice (some ⟨W.heap.size, 0, none⟩) 1 1) 4 1 (rtRow ⟨(k : Int), z % 4, 0, 739616 + z / 4 % 10⟩)) := fun W => Rd.lit W (litRt ⟨(k : Int), z % 4, 0, 739616 + z / 4 % 10⟩) 53 4 1 rfl (by unfold maxLen; omega)
      have HLW : Hid (∀ (W : World), Rd (W.alloc (.cells #[.int .i64 (k : Int), .int .i64 (z / 40 % 7), .int .i64 (z / 280 % 9), .int .i64 ((z + 1) % 4)] 55)) (.slice (some ⟨W.heap.size, 0, none⟩) 1 1) 4 1 (rtRow ⟨(k : Int), z / 40 % 7, z / 280 % 9, (z + 1) % 4⟩)) := fun W => Rd.lit W (litRt ⟨(k : Int), z / 40 % 7, z / 280 % 9, (z + 1) % 4⟩) 55 4 1 rfl (by unfold maxLen; omega)
      have HRO : Hid (∀ (r : Ret), ∀ u ∈ rtRow r, u.oneCell' = true) := fun r u hu => by
        simp [rtRow] at hu
        rcases hu with rfl | rfl | rfl | rfl <;> rfl
      have HN1 : Hid (k + 1 ≤ maxLen) := (by show _ ≤ _; unfold maxLen; omega)
      have HN2 : Hid ((k + 1) * 32 ≤ 140737488355328) := (by show _ ≤ _; omega)
      have HM1 : Hid (q + 1 ≤ maxLen) := (by show _ ≤ _; unfold maxLen; omega)
      have HM2 : Hid ((q + 1) * 32 ≤ 140737488355328) := (by show _ ≤ _; omega)
      clear hq hxr hc
      go_wp2_with fail
      refine (HNU.out _).mono ?_
      rintro e w' ⟨rfl, rfl⟩
      go_wp2_with (at_builtin; go_must (refine wpList_append_rd rfl _ _ 50 rfl w.heap.size 53 _ 4 32 Try.underlying50 infoPap rfl (by decide) (.slice a7 k c7) k (rtCells (rcPaps l k)) rfl (owns_below HB.out.pap ?b0) _ 1 (rtRow ⟨(k : Int), z % 4, 0, 739616 + z / 4 % 10⟩) rfl (HLP.out _) (HRO.out _) HN1.out HN2.out ?b3 ?_))
      case b0 => exact (Below.refl _ _).alloc (Nat.le_refl _) _
      case b3 => exact Nat.le_trans HB.out.bel.size (by simp)
      intro v4 w4 hv4 hg4
      have hC := (HB.out.below ((Below.refl _ _).alloc (Nat.le_refl _) (.cells #[.int .i64 (k : Int), .int .i64 (z % 4), .int .i64 0, .int .i64 (739616 + z / 4 % 10)] 53))).pap1 (by rw [HPP.out]; exact hv4) hg4
      obtain ⟨a9, c9, hv9, -, -⟩ := owns_slice hv4
      subst hv9
      have HC4 := Lib.hid hC
      have HWY : Hid (w4.ownsRow w.heap.size 55 4 (.slice a8 q c8) q (rtCells (rcWays l k))) := by have h := hC.way; rw [HQ.out] at h; exact h
      clear hv4 hg4 hC
      by_cases hh : z / 40 % 7 < 6
      · have HHT : Hid (rcHas l k = true) := by show _ = _; rw [HHS.out]; simpa using hh
        go_wp2_with (at_builtin; go_must (refine wpList_append_rd rfl _ _ 51 rfl w.heap.size 55 _ 4 32 Try.underlying51 infoWay rfl (by decide) (.slice a8 q c8) q (rtCells (rcWays l k)) rfl (owns_below HWY.out ?b0) _ 1 (rtRow ⟨(k : Int), z / 40 % 7, z / 280 % 9, (z + 1) % 4⟩) rfl (HLW.out _) (HRO.out _) HM1.out HM2.out ?b3 ?_))
        case b0 => exact (Below.refl _ _).alloc (Nat.le_refl _) _
        case b3 => exact Nat.le_trans HC4.out.bel.size (by simp)
        intro v6 w6 hv6 hg6
        have HTN := Lib.hid ((HC4.out.below ((Below.refl _ _).alloc (Nat.le_refl _) (.cells #[.int .i64 (k : Int), .int .i64 (z / 40 % 7), .int .i64 (z / 280 % 9), .int .i64 ((z + 1) % 4)] 55))).way1 HHT.out (by rw [HWW.out, HQ.out]; exact hv6) hg6)
        obtain ⟨a10, c10, hv10, -, -⟩ := owns_slice hv6
        subst hv10
        clear hv6 hg6 HC4 HWY
        go_wp2_with fail
        go_roundw
        case rel => exact ⟨k + 1, _, _, rfl, rfl, by go_num, by omega, by omega, HTN⟩
        case measure => simp [intOf]; omega
      · have HHT : Hid (rcHas l k = false) := by show _ = _; rw [HHS.out]; simpa using hh
        go_wp2_with fail
        go_roundw
        case rel => exact ⟨k + 1, _, _, rfl, rfl, by go_num, by omega, by omega, Lib.hid (HC4.out.way0 HHT.out)⟩
        case measure => simp [intOf]; omega
    · obtain ⟨wA, rfl⟩ : ∃ wA : World, wA = wr := ⟨_, rfl⟩
      have hpl : (rcPaps l k).length = k := rcPaps_len l k
      have hwl := rcWays_len l k
      have hpo : wA.ownsRow w.heap.size 53 4 vp (rcPaps l k).length (rtCells (rcPaps l k)) := by rw [hpl]; exact HB.out.pap
      have hpap : IsRts wA vp (rcPaps l k) := IsRts.of_owns hpo
      have hway : IsRts wA vw (rcWays l k) := IsRts.of_owns HB.out.way
      have HPAP := Lib.hid hpap
      have EB := Lib.hid HB.out.bel
      have HCHK := Lib.hid (check_cr (rcPaps l k) (rcWays l k) vp vw wA hpap hway (rc_papers l hk6) (rc_ways l k))
      have HRUN : Hid (∀ W u, Below wA.heap.size wA W → Calls Try.prog 27 #[vp, vw, .int .i64 u] W fun e w' => ∃ v1 v2, e = .returned (.tuple #[v1, v2]) ∧ ∃ D R, Hid (D.Perm ((runD (rcWays l k) (rcPaps l k)).filter (fun x => !decide (u < x.day)))) ∧ Hid (R.Perm ((runR (rcWays l k) (rcPaps l k)).filter (fun x => !decide (u < x.day)))) ∧ Hid (RunAt W w' v1 v2 D R)) := fun W u hW =>
        run_anyG (rcPaps l k) (rcWays l k) vp vw u W (hpap.below hW) (hway.below hW) (fun p hp => by have := (rc_papers l hk6).num p hp; omega) (fun x hx => by have := (rc_ways l k).num x hx; omega) (by omega)
      obtain ⟨a7, c7, hv7, -, -⟩ := owns_slice HB.out.pap
      obtain ⟨a8, c8, hv8, -, -⟩ := owns_slice HB.out.way
      subst hv7
      subst hv8
      obtain ⟨U, hU⟩ : ∃ U, around ut 40 = U := ⟨_, rfl⟩
      have hU1 := around_lo ut 40 (by omega)
      have hU2 := around_hi ut 40 (by omega)
      have HAU : Hid (∀ W, Calls Try.prog 14 #[.int .i64 ut, .int .i64 40] W fun e w' => e = .returned (.int .i64 (around ut 40)) ∧ W = w') := fun W => around_any ut 40 HU.out (by omega) W
      obtain ⟨T, hT⟩ : ∃ T, around tol 3 = T := ⟨_, rfl⟩
      have hT1 := around_lo tol 3 (by omega)
      have hT2 := around_hi tol 3 (by omega)
      have HAT : Hid (∀ W, Calls Try.prog 14 #[.int .i64 tol, .int .i64 3] W fun e w' => e = .returned (.int .i64 (around tol 3)) ∧ W = w') := fun W => around_any tol 3 HT.out (by omega) W
      rw [hU] at hU1 hU2 HAU
      rw [hT] at hT1 hT2 HAT
      have wU : IntKind.i64.wrap (739616 + U) = 739616 + U := by rw [IntKind.wrap_i64]; omega
      have hex : ¬ (k : Int) < (l.length : Int) ∨ ((k : Int) < (l.length : Int) ∧ ¬ (k : Int) < 6) := by omega
      clear hpap hway HB ek hU hT hkl
      rcases hex with hkI | ⟨hkI, hkJ⟩
      all_goals
        go_wp2_with fail
        refine HCHK.out.mono ?_
        rintro e w5 ⟨rfl, b5⟩
        have E5 := Lib.hid b5
        clear b5 HCHK
        go_wp2_with fail
        refine (HAU.out _).mono ?_
        rintro e w' ⟨rfl, rfl⟩
        go_wp2_with fail
        refine (HRUN.out _ _ E5.out).mono ?_
        rintro e w6 ⟨vD, vR, rfl, D, R, HPD, HPR, HRA⟩
        have E6 := Lib.hid (Below.to E5.out HRA.out.bel E5.out.size)
        have HVD := Lib.hid (IsDls.of_owns HRA.out.del)
        have HVR := Lib.hid (IsRps.of_owns HRA.out.rep)
        have HPAP6 := Lib.hid (HPAP.out.below E6.out)
        have EW6 := Lib.hid (Below.to EB.out E6.out EB.out.size)
        obtain ⟨aD, cD, hvD, -, -⟩ := HVD.out.open
        obtain ⟨aR, cR, hvR, hRm, -⟩ := HVR.out.open
        subst hvD
        subst hvR
        clear HRUN HRA HPAP E5 E6
        go_wp2_with fail
        refine (HAT.out _).mono ?_
        rintro e w' ⟨rfl, rfl⟩
        go_wp2_with fail
        have hcar : IsSps (w6.alloc (.cells #[.int .i64 0, .int .i64 T] 40)) (.slice (some ⟨w6.heap.size, 0, none⟩) 1 1) [(0, T)] := spans_lit w6 [(0, T)] _ (by simp)
        have hb7 : Below w6.heap.size w6 (w6.alloc (.cells #[.int .i64 0, .int .i64 T] 40)) := (Below.refl _ _).alloc (Nat.le_refl _) _
        have EW7 := Lib.hid (Below.to EW6.out hb7 EW6.out.size)
        have HVD7 := Lib.hid (HVD.out.below hb7)
        have HVR7 := Lib.hid (HVR.out.below hb7)
        have HPAP7 := Lib.hid (HPAP6.out.below hb7)
        have HCAR := Lib.hid hcar
        obtain ⟨g, hg⟩ : ∃ g, w6.heap.size = g := ⟨_, rfl⟩
        rw [hg] at HCAR ⊢
        generalize w6.alloc (.cells #[.int .i64 0, .int .i64 T] 40) = wB at *
        clear hcar hb7 HVD HVR HPAP6 EW6
        go_loopw [15] (fun i wr => ∃ (j : Nat), i = .int .i64 j ∧ j ≤ k ∧ Hid (Below wB.heap.size wB wr)) (fun i _ => k - (intOf i).toNat)
        case atStart => exact ⟨0, rfl, Nat.zero_le _, Lib.hid (Below.refl _ _)⟩
        case round =>
          obtain ⟨j, rfl, hj, HBO⟩ := hrel
          have ej : IntKind.i64.wrap ((j : Int) + 1) = ((j + 1 : Nat) : Int) := by rw [IntKind.wrap_i64]; omega
          by_cases hjk : j < k
          · have hjI : (j : Int) < (k : Int) := by omega
            have HVD8 := Lib.hid (HVD7.out.below HBO.out)
            have HVR8 := Lib.hid (HVR7.out.below HBO.out)
            have HPA8 := Lib.hid (HPAP7.out.below HBO.out)
            have HCA8 := Lib.hid (HCAR.out.below HBO.out)
            have hR12 : R.length ≤ 12 := by
              rw [HPR.out.length_eq]
              refine Nat.le_trans (List.length_filter_le _ _) (Nat.le_trans (runR_le _ _) ?_)
              rw [hpl]; omega
            have HHR := Lib.hid (fun (x : Ret) (hx : x ∈ mineF R R.length (j : Int)) => rc_rets HPR.out x hx)
            have HTD := Lib.hid (fun (par day : Int) => rc_truth (par := par) (day := day) HPD.out hjk)
            obtain ⟨wC, rfl⟩ : ∃ wC : World, wC = wr := ⟨_, rfl⟩
            go_wp2_with fail
            go_loopw [16, 17] (fun m q wr => ∃ (n : Nat) (vm : Value), vm = m ∧ q = .int .i64 n ∧ n ≤ R.length ∧ Hid (wr.ownsRow wC.heap.size 30 4 vm (mineF R n (j : Int)).length (rtCells (mineF R n (j : Int)))) ∧ Hid (Below wC.heap.size wC wr)) (fun _ q _ => R.length - (intOf q).toNat)
            case atStart => exact ⟨0, _, rfl, rfl, Nat.zero_le _, World.ownsRow_nil _ _ _ _, Lib.hid (Below.refl _ _)⟩
            case round =>
              obtain ⟨n, vm, rfl, rfl, hn, HMO, HBE⟩ := hrel
              have en : IntKind.i64.wrap ((n : Int) + 1) = ((n + 1 : Nat) : Int) := by rw [IntKind.wrap_i64]; omega
              have hml : (mineF R n (j : Int)).length ≤ n := mineF_len R n (j : Int)
              by_cases hnl : n < R.length
              · have hnI : (n : Int) < (R.length : Int) := by omega
                obtain ⟨b9, o9, q9, e9, -, y0, -, y2, y3, y4, y5⟩ := (HVR8.out.below HBE.out).at hnl
                simp only [Value.slice.injEq, true_and] at e9
                obtain ⟨rfl, -⟩ := e9
                have HMS := Lib.hid (mineF_S hnl (j : Int))
                obtain ⟨at_, ret, hat, hret, HMS'⟩ : ∃ (at_ : Int) (ret : Ret), R[n].att = at_ ∧ R[n].ret = ret ∧ Hid (mineF R (n + 1) (j : Int) = mineF R n (j : Int) ++ (if at_ = (j : Int) then [ret] else [])) := ⟨_, _, rfl, rfl, HMS⟩
                rw [hat] at y0
                rw [hret] at y2 y3 y4 y5
                obtain ⟨r0, r1, r2, r3⟩ := ret
                simp only at y2 y3 y4 y5
                clear HMS hat hret
                obtain ⟨am, cm, rfl, -, -⟩ := owns_slice HMO.out
                by_cases ha : at_ = (j : Int)
                · subst ha
                  have HMS2 : Hid (mineF R (n + 1) (j : Int) = mineF R n (j : Int) ++ [⟨r0, r1, r2, r3⟩]) := by show _ = _; rw [HMS'.out, if_pos rfl]
                  obtain ⟨q, hq⟩ : ∃ q, (mineF R n (j : Int)).length = q := ⟨_, rfl⟩
                  rw [hq] at HMO hml
                  rw [hq]
                  have HQ : Hid ((mineF R n (j : Int)).length = q) := hq
                  have HLM : Hid (∀ (W : World), Rd (W.alloc (.cells #[.int .i64 r0, .int .i64 r1, .int .i64 r2, .int .i64 r3] 30)) (.slice (some ⟨W.heap.size, 0, none⟩) 1 1) 4 1 (rtRow ⟨r0, r1, r2, r3⟩)) := fun W => Rd.lit W (litRt ⟨r0, r1, r2, r3⟩) 30 4 1 rfl (by unfold maxLen; omega)
                  have HRO : Hid (∀ u ∈ rtRow ⟨r0, r1, r2, r3⟩, u.oneCell' = true) := fun u hu => by
                    simp [rtRow] at hu
                    rcases hu with rfl | rfl | rfl | rfl <;> rfl
                  have HN1 : Hid (q + 1 ≤ maxLen) := (by show _ ≤ _; unfold maxLen; omega)
                  have HN2 : Hid ((q + 1) * 32 ≤ 140737488355328) := (by show _ ≤ _; omega)
                  clear hq HMS'
                  go_wp2_with (at_builtin; go_must (refine wpList_append_rd rfl _ _ 24 rfl wC.heap.size 30 _ 4 32 Try.underlying24 infoRt rfl (by decide) (.slice am q cm) q (rtCells (mineF R n (j : Int))) rfl (owns_below HMO.out ?b0) _ 1 (rtRow ⟨r0, r1, r2, r3⟩) rfl (HLM.out _) HRO.out HN1.out HN2.out ?b3 ?_))
                  case b0 => exact (Below.refl _ _).alloc (Nat.le_refl _) _
                  case b3 => exact Nat.le_trans HBE.out.size (by simp)
                  intro v4 w4 hv4 hg4
                  have hb0 : Below wC.heap.size wC (wr.alloc (.cells #[.int .i64 r0, .int .i64 r1, .int .i64 r2, .int .i64 r3] 30)) := Below.alloc HBE.out HBE.out.size _
                  have HB4 := Lib.hid (below_append hb0 (owns_below HMO.out ((Below.refl _ _).alloc (Nat.le_refl _) _)) hg4 hb0.size)
                  have HM4 : Hid (w4.ownsRow wC.heap.size 30 4 v4 (mineF R (n + 1) (j : Int)).length (rtCells (mineF R (n + 1) (j : Int)))) := by
                    rw [HMS2.out, List.length_append, rtCells_append, rtCells_single, HQ.out]
                    exact hv4
                  clear hb0 hv4 hg4 HMS2
                  obtain ⟨a4, c4, rfl, -, -⟩ := owns_slice HM4.out
                  go_wp2_with fail
                  go_roundw
                  case rel => exact ⟨n + 1, _, rfl, by go_num, by omega, HM4, HB4⟩
                  case measure => simp [intOf]; omega
                · have HMS2 : Hid (mineF R (n + 1) (j : Int) = mineF R n (j : Int)) := by show _ = _; rw [HMS'.out, if_neg ha, List.append_nil]
                  have HM4 : Hid (wr.ownsRow wC.heap.size 30 4 (.slice am (mineF R n (j : Int)).length cm) (mineF R (n + 1) (j : Int)).length (rtCells (mineF R (n + 1) (j : Int)))) := by
                    rw [HMS2.out]
                    exact HMO.out
                  clear HMS' HMS2
                  go_wp2_with fail
                  go_roundw
                  case rel => exact ⟨n + 1, _, rfl, by go_num, by omega, HM4, HBE⟩
                  case measure => simp [intOf]; omega
              · have hke : n = R.length := by omega
                subst hke
                have hnI : ¬ (R.length : Int) < (R.length : Int) := by omega
                obtain ⟨M, hM⟩ : ∃ M, mineF R R.length (j : Int) = M := ⟨_, rfl⟩
                rw [hM] at HMO HHR hml
                have HMR := Lib.hid (IsRts.of_owns HMO.out)
                obtain ⟨am, cm, hvm, -, -⟩ := owns_slice HMO.out
                subst hvm
                have HOK : Hid ((∀ x ∈ M, x.car = 0) ∧ RetsOk [(0, T)].length M) := ⟨fun x hx => (HHR.out x hx).1, fun x hx => (HHR.out x hx).2⟩
                have HCOK : Hid (CarOk [(0, T)]) := fun c hc => by
                  have : c = (0, T) := by simpa using hc
                  subst this
                  show 0 ≤ T ∧ T ≤ 1000
                  omega
                have hpj : (rcPaps l k)[j]'(by rw [hpl]; exact hjk) = rcPap l j := by simp [rcPaps]
                have hS0 := numF_in l j
                obtain ⟨S, hS⟩ : ∃ S, (rcPap l j).un = S := ⟨_, rfl⟩
                have hSe : S = 739616 + numF l j / 4 % 10 := by rw [← hS]; rfl
                have HPJ : Hid ((rcPaps l k)[j]'(by rw [hpl]; exact hjk) = ⟨(j : Int), numF l j % 4, 0, S⟩) := by show _ = _; rw [hpj, hSe]; rfl
                have hsv := served_cr D (rcPaps l k) j (.slice aD D.length cD) (.slice a7 k c7) wr (HVD8.out.below HBE.out) (HPA8.out.below HBE.out) (rc_papers l hk6).idx (by rw [hpl]; exact hjk)
                rw [HPJ.out] at hsv
                simp only at hsv
                have htd := fun day => HTD.out (numF l j % 4) day
                rw [hS] at htd
                obtain ⟨tr, htr⟩ : ∃ tr, srvF D (j : Int) (numF l j % 4) = tr := ⟨_, rfl⟩
                rw [htr] at hsv htd
                obtain ⟨x, b⟩ := tr
                have HTR : Hid (b = true → S ≤ x ∧ x ≤ 3652058) := fun h => htd x (by rw [h])
                have HSV := Lib.hid hsv
                have HVM := HMR
                have hS1 : 739616 ≤ S ∧ S ≤ 739625 := by omega
                clear hsv htd htr hM HHR HTD hpj hS hSe hS0 HMO HMR en hn
                go_wp2_with fail
                refine HSV.out.mono ?_
                rintro e wE ⟨rfl, bE⟩
                have HME := Lib.hid (HVM.out.below bE)
                have HPAE := Lib.hid ((HPA8.out.below HBE.out).below bE)
                have HCAE := Lib.hid ((HCA8.out.below HBE.out).below bE)
                have HBE := Lib.hid (Below.to HBE.out bE HBE.out.size)
                clear bE HSV HVM
                have hM12 : M.length ≤ 12 := by omega
                cases b
                · have HTT : Hid ((-1) = -1 ∨ (S ≤ (-1) ∧ (-1) ≤ 3652058)) := .inl rfl
                  clear HTR
                  go_wp2_with fail
                  go_loopw [20, 21] (fun c q wr => ∃ (n : Nat), q = .int .i64 n ∧ c = .int .i64 ((M.take n).countP (fun r => wrongB r (-1)) : Nat) ∧ n ≤ M.length ∧ Hid (Below wE.heap.size wE wr)) (fun _ q _ => M.length - (intOf q).toNat)
                  case atStart => exact ⟨0, rfl, by simp, Nat.zero_le _, Lib.hid (Below.refl _ _)⟩
                  case round =>
                    obtain ⟨n, rfl, rfl, hn, HB9⟩ := hrel
                    have en : IntKind.i64.wrap ((n : Int) + 1) = ((n + 1 : Nat) : Int) := by rw [IntKind.wrap_i64]; omega
                    obtain ⟨cn, hcn⟩ : ∃ cn, (M.take n).countP (fun r => wrongB r (-1)) = cn := ⟨_, rfl⟩
                    have hcl : cn ≤ n := by rw [← hcn]; exact Nat.le_trans List.countP_le_length (by rw [List.length_take]; omega)
                    by_cases hnl : n < M.length
                    · have hnI : (n : Int) < (M.length : Int) := by omega
                      have ec : IntKind.i64.wrap ((cn : Int) + 1) = ((cn + 1 : Nat) : Int) := by rw [IntKind.wrap_i64]; omega
                      obtain ⟨b9, o9, q9, e9, -, y0, y1, y2, y3⟩ := (HME.out.below HB9.out).at hnl
                      simp only [Value.slice.injEq, true_and] at e9
                      obtain ⟨rfl, -⟩ := e9
                      have HCT : Hid ((M.take (n + 1)).countP (fun r => wrongB r (-1)) = cn + (if wrongB M[n] (-1) = true then 1 else 0)) := by
                        show _ = _
                        rw [List.take_succ_eq_append_getElem hnl, List.countP_append, hcn, List.countP_singleton]
                      have HWR : Hid (∀ W, Calls Try.prog 15 #[.agg (litRt M[n]), .int .i64 (-1)] W fun e w' => e = .returned (.bool (wrongB M[n] (-1))) ∧ Below W.heap.size W w') := fun W => wrong_any _ _ W
                      obtain ⟨bw, hbw⟩ : ∃ bw, wrongB M[n] (-1) = bw := ⟨_, rfl⟩
                      rw [hbw] at HCT HWR
                      rw [hcn]
                      clear hbw hcn
                      generalize M[n] = r at *
                      obtain ⟨r0, r1, r2, r3⟩ := r
                      simp only at y0 y1 y2 y3
                      go_wp2_with fail
                      refine (HWR.out _).mono ?_
                      rintro e w10 ⟨rfl, b10⟩
                      have HB10 := Lib.hid (Below.to HB9.out b10 HB9.out.size)
                      clear b10 HWR
                      cases bw
                      · have HC2 : Hid ((M.take (n + 1)).countP (fun r => wrongB r (-1)) = cn) := HCT.out
                        clear HCT
                        go_wp2_with fail
                        go_roundw
                        case rel => exact ⟨n + 1, by go_num, by rw [HC2.out], by omega, HB10⟩
                        case measure => simp [intOf]; omega
                      · have HC2 : Hid ((M.take (n + 1)).countP (fun r => wrongB r (-1)) = cn + 1) := HCT.out
                        clear HCT
                        go_wp2_with fail
                        go_roundw
                        case rel => exact ⟨n + 1, by go_num, by rw [HC2.out]; go_num, by omega, HB10⟩
                        case measure => simp [intOf]; omega
                    · have hke : n = M.length := by omega
                      subst hke
                      have hnI : ¬ (M.length : Int) < (M.length : Int) := by omega
                      rw [hcn]
                      rw [List.take_length] at hcn
                      have HCN : Hid ((M.countP (fun r => wrongB r (-1)) : Int) = cn) := by show _ = _; rw [hcn]
                      have HM9 := Lib.hid (HME.out.below HB9.out)
                      have HC9 := Lib.hid (HCAE.out.below HB9.out)
                      obtain ⟨bp, op, qp, ep, -, -, -, -, yp⟩ := (HPAE.out.below HB9.out).at (l := rcPaps l k) (k := j) (by rw [hpl]; exact hjk)
                      rw [HPJ.out] at yp
                      simp only [Value.slice.injEq] at ep
                      obtain ⟨rfl, -⟩ := ep
                      clear hcn
                      go_wp2_with fail
                      refine (allowed_any M [(0, T)] _ _ S _ HM9.out HC9.out (by omega) (by simp) HOK.out.2 HCOK.out (by omega) (by omega)).mono ?_
                      rintro e w10 ⟨vA, nv, rfl, out, HAL, hvA, b10⟩
                      have HB10 := Lib.hid (Below.to HB9.out b10 HB9.out.size)
                      have HMA := Lib.hid (HM9.out.below b10)
                      have HCA := Lib.hid (HC9.out.below b10)
                      have HVA := Lib.hid hvA
                      obtain ⟨aA, cA, rfl, -, -, -⟩ := hvA.open
                      clear hvA b10 HM9 HC9 yp
                      go_wp2_with fail
                      have hck := check_any M [(0, T)] _ _ _ HMA.out HCA.out
                      rw [show chkF [((0 : Int), T)].length M = 0 from chkF_rets HOK.out.2 (by omega)] at hck
                      refine hck.mono ?_
                      clear hck
                      rintro e w11 ⟨rfl, b11⟩
                      have HB11 := Lib.hid (Below.to HB10.out b11 HB10.out.size)
                      have HVA2 := Lib.hid (HVA.out.below b11)
                      obtain ⟨bc, oc, qc, ec', -, -, yc⟩ := (HCA.out.below b11).at (l := [(0, T)]) (k := 0) (by simp)
                      simp only [Value.slice.injEq, Option.some.injEq, Addr.mk.injEq, List.length_singleton] at ec'
                      obtain ⟨⟨rfl, rfl, -⟩, -⟩ := ec'
                      have yT : w11.cell? ⟨g, 1, none⟩ = some (.int .i64 T) := yc
                      clear yc b11 HVA HMA HCA
                      by_cases hcm : (cn : Int) ≤ T
                      · have HHD : Hid (hasDay out nv (-1) = true) := rc_has HAL.out (fun x hx => (HOK.out.1 x hx)) (by rw [HCN.out]; exact hcm) (by omega) (.inl rfl)
                        go_wp2_with fail
                        refine (hasDay_any out _ nv (-1) _ HVA2.out).mono ?_
                        rintro e w12 ⟨rfl, b12⟩
                        rw [HHD.out]
                        have HB12 := Lib.hid (Below.to HB11.out b12 HB11.out.size)
                        have HVA3 := Lib.hid (HVA2.out.below b12)
                        clear b12 HVA2 HHD
                        go_wp2_with fail
                        refine (merge_any out _ _ HVA3.out (by have := alw_len HAL.out (by omega); omega) (alw_SpB HAL.out (by omega))).mono ?_
                        rintro e w13 ⟨vm, rfl, l', ⟨hp, hs⟩, hvm, b13⟩
                        rw [alw_merged HAL.out hp hs] at hvm
                        have HVM := Lib.hid hvm
                        have HB13 := Lib.hid (Below.to HB12.out b13 HB12.out.size)
                        have HVA4 := Lib.hid (HVA3.out.below b13)
                        clear b13 HVA3 hvm hp hs
                        go_wp2_with fail
                        refine (sameSpans_eq _ _ _ _ HVM.out HVA4.out).mono ?_
                        rintro e w14 ⟨rfl, b14⟩
                        have HB14 := Lib.hid (Below.to HBO.out (Below.to HBE.out (Below.to HB13.out b14 HB13.out.size) HBE.out.size) HBO.out.size)
                        clear b14
                        go_wp2_with fail
                        go_roundw
                        case rel => exact ⟨j + 1, by go_num, by omega, HB14⟩
                        case measure => simp [intOf]; omega
                      · go_wp2_with fail
                        refine (merge_any out _ _ HVA2.out (by have := alw_len HAL.out (by omega); omega) (alw_SpB HAL.out (by omega))).mono ?_
                        rintro e w13 ⟨vm, rfl, l', ⟨hp, hs⟩, hvm, b13⟩
                        rw [alw_merged HAL.out hp hs] at hvm
                        have HVM := Lib.hid hvm
                        have HB13 := Lib.hid (Below.to HB11.out b13 HB11.out.size)
                        have HVA4 := Lib.hid (HVA2.out.below b13)
                        clear b13 HVA2 hvm hp hs
                        go_wp2_with fail
                        refine (sameSpans_eq _ _ _ _ HVM.out HVA4.out).mono ?_
                        rintro e w14 ⟨rfl, b14⟩
                        have HB14 := Lib.hid (Below.to HBO.out (Below.to HBE.out (Below.to HB13.out b14 HB13.out.size) HBE.out.size) HBO.out.size)
                        clear b14
                        go_wp2_with fail
                        go_roundw
                        case rel => exact ⟨j + 1, by go_num, by omega, HB14⟩
                        case measure => simp [intOf]; omega
                · have HTT : Hid (x = -1 ∨ (S ≤ x ∧ x ≤ 3652058)) := .inr (HTR.out rfl)
                  clear HTR
                  go_wp2_with fail
                  go_loopw [20, 21] (fun c q wr => ∃ (n : Nat), q = .int .i64 n ∧ c = .int .i64 ((M.take n).countP (fun r => wrongB r x) : Nat) ∧ n ≤ M.length ∧ Hid (Below wE.heap.size wE wr)) (fun _ q _ => M.length - (intOf q).toNat)
                  case atStart => exact ⟨0, rfl, by simp, Nat.zero_le _, Lib.hid (Below.refl _ _)⟩
                  case round =>
                    obtain ⟨n, rfl, rfl, hn, HB9⟩ := hrel
                    have en : IntKind.i64.wrap ((n : Int) + 1) = ((n + 1 : Nat) : Int) := by rw [IntKind.wrap_i64]; omega
                    obtain ⟨cn, hcn⟩ : ∃ cn, (M.take n).countP (fun r => wrongB r x) = cn := ⟨_, rfl⟩
                    have hcl : cn ≤ n := by rw [← hcn]; exact Nat.le_trans List.countP_le_length (by rw [List.length_take]; omega)
                    by_cases hnl : n < M.length
                    · have hnI : (n : Int) < (M.length : Int) := by omega
                      have ec : IntKind.i64.wrap ((cn : Int) + 1) = ((cn + 1 : Nat) : Int) := by rw [IntKind.wrap_i64]; omega
                      obtain ⟨b9, o9, q9, e9, -, y0, y1, y2, y3⟩ := (HME.out.below HB9.out).at hnl
                      simp only [Value.slice.injEq, true_and] at e9
                      obtain ⟨rfl, -⟩ := e9
                      have HCT : Hid ((M.take (n + 1)).countP (fun r => wrongB r x) = cn + (if wrongB M[n] x = true then 1 else 0)) := by
                        show _ = _
                        rw [List.take_succ_eq_append_getElem hnl, List.countP_append, hcn, List.countP_singleton]
                      have HWR : Hid (∀ W, Calls Try.prog 15 #[.agg (litRt M[n]), .int .i64 x] W fun e w' => e = .returned (.bool (wrongB M[n] x)) ∧ Below W.heap.size W w') := fun W => wrong_any _ _ W
                      obtain ⟨bw, hbw⟩ : ∃ bw, wrongB M[n] x = bw := ⟨_, rfl⟩
                      rw [hbw] at HCT HWR
                      rw [hcn]
                      clear hbw hcn
                      generalize M[n] = r at *
                      obtain ⟨r0, r1, r2, r3⟩ := r
                      simp only at y0 y1 y2 y3
                      go_wp2_with fail
                      refine (HWR.out _).mono ?_
                      rintro e w10 ⟨rfl, b10⟩
                      have HB10 := Lib.hid (Below.to HB9.out b10 HB9.out.size)
                      clear b10 HWR
                      cases bw
                      · have HC2 : Hid ((M.take (n + 1)).countP (fun r => wrongB r x) = cn) := HCT.out
                        clear HCT
                        go_wp2_with fail
                        go_roundw
                        case rel => exact ⟨n + 1, by go_num, by rw [HC2.out], by omega, HB10⟩
                        case measure => simp [intOf]; omega
                      · have HC2 : Hid ((M.take (n + 1)).countP (fun r => wrongB r x) = cn + 1) := HCT.out
                        clear HCT
                        go_wp2_with fail
                        go_roundw
                        case rel => exact ⟨n + 1, by go_num, by rw [HC2.out]; go_num, by omega, HB10⟩
                        case measure => simp [intOf]; omega
                    · have hke : n = M.length := by omega
                      subst hke
                      have hnI : ¬ (M.length : Int) < (M.length : Int) := by omega
                      rw [hcn]
                      rw [List.take_length] at hcn
                      have HCN : Hid ((M.countP (fun r => wrongB r x) : Int) = cn) := by show _ = _; rw [hcn]
                      have HM9 := Lib.hid (HME.out.below HB9.out)
                      have HC9 := Lib.hid (HCAE.out.below HB9.out)
                      obtain ⟨bp, op, qp, ep, -, -, -, -, yp⟩ := (HPAE.out.below HB9.out).at (l := rcPaps l k) (k := j) (by rw [hpl]; exact hjk)
                      rw [HPJ.out] at yp
                      simp only [Value.slice.injEq] at ep
                      obtain ⟨rfl, -⟩ := ep
                      clear hcn
                      go_wp2_with fail
                      refine (allowed_any M [(0, T)] _ _ S _ HM9.out HC9.out (by omega) (by simp) HOK.out.2 HCOK.out (by omega) (by omega)).mono ?_
                      rintro e w10 ⟨vA, nv, rfl, out, HAL, hvA, b10⟩
                      have HB10 := Lib.hid (Below.to HB9.out b10 HB9.out.size)
                      have HMA := Lib.hid (HM9.out.below b10)
                      have HCA := Lib.hid (HC9.out.below b10)
                      have HVA := Lib.hid hvA
                      obtain ⟨aA, cA, rfl, -, -, -⟩ := hvA.open
                      clear hvA b10 HM9 HC9 yp
                      go_wp2_with fail
                      have hck := check_any M [(0, T)] _ _ _ HMA.out HCA.out
                      rw [show chkF [((0 : Int), T)].length M = 0 from chkF_rets HOK.out.2 (by omega)] at hck
                      refine hck.mono ?_
                      clear hck
                      rintro e w11 ⟨rfl, b11⟩
                      have HB11 := Lib.hid (Below.to HB10.out b11 HB10.out.size)
                      have HVA2 := Lib.hid (HVA.out.below b11)
                      obtain ⟨bc, oc, qc, ec', -, -, yc⟩ := (HCA.out.below b11).at (l := [(0, T)]) (k := 0) (by simp)
                      simp only [Value.slice.injEq, Option.some.injEq, Addr.mk.injEq, List.length_singleton] at ec'
                      obtain ⟨⟨rfl, rfl, -⟩, -⟩ := ec'
                      have yT : w11.cell? ⟨g, 1, none⟩ = some (.int .i64 T) := yc
                      clear yc b11 HVA HMA HCA
                      by_cases hcm : (cn : Int) ≤ T
                      · have HHD : Hid (hasDay out nv x = true) := rc_has HAL.out (fun x hx => (HOK.out.1 x hx)) (by rw [HCN.out]; exact hcm) (by omega) HTT.out
                        go_wp2_with fail
                        refine (hasDay_any out _ nv x _ HVA2.out).mono ?_
                        rintro e w12 ⟨rfl, b12⟩
                        rw [HHD.out]
                        have HB12 := Lib.hid (Below.to HB11.out b12 HB11.out.size)
                        have HVA3 := Lib.hid (HVA2.out.below b12)
                        clear b12 HVA2 HHD
                        go_wp2_with fail
                        refine (merge_any out _ _ HVA3.out (by have := alw_len HAL.out (by omega); omega) (alw_SpB HAL.out (by omega))).mono ?_
                        rintro e w13 ⟨vm, rfl, l', ⟨hp, hs⟩, hvm, b13⟩
                        rw [alw_merged HAL.out hp hs] at hvm
                        have HVM := Lib.hid hvm
                        have HB13 := Lib.hid (Below.to HB12.out b13 HB12.out.size)
                        have HVA4 := Lib.hid (HVA3.out.below b13)
                        clear b13 HVA3 hvm hp hs
                        go_wp2_with fail
                        refine (sameSpans_eq _ _ _ _ HVM.out HVA4.out).mono ?_
                        rintro e w14 ⟨rfl, b14⟩
                        have HB14 := Lib.hid (Below.to HBO.out (Below.to HBE.out (Below.to HB13.out b14 HB13.out.size) HBE.out.size) HBO.out.size)
                        clear b14
                        go_wp2_with fail
                        go_roundw
                        case rel => exact ⟨j + 1, by go_num, by omega, HB14⟩
                        case measure => simp [intOf]; omega
                      · go_wp2_with fail
                        refine (merge_any out _ _ HVA2.out (by have := alw_len HAL.out (by omega); omega) (alw_SpB HAL.out (by omega))).mono ?_
                        rintro e w13 ⟨vm, rfl, l', ⟨hp, hs⟩, hvm, b13⟩
                        rw [alw_merged HAL.out hp hs] at hvm
                        have HVM := Lib.hid hvm
                        have HB13 := Lib.hid (Below.to HB11.out b13 HB11.out.size)
                        have HVA4 := Lib.hid (HVA2.out.below b13)
                        clear b13 HVA2 hvm hp hs
                        go_wp2_with fail
                        refine (sameSpans_eq _ _ _ _ HVM.out HVA4.out).mono ?_
                        rintro e w14 ⟨rfl, b14⟩
                        have HB14 := Lib.hid (Below.to HBO.out (Below.to HBE.out (Below.to HB13.out b14 HB13.out.size) HBE.out.size) HBO.out.size)
                        clear b14
                        go_wp2_with fail
                        go_roundw
                        case rel => exact ⟨j + 1, by go_num, by omega, HB14⟩
                        case measure => simp [intOf]; omega
          · have hke : j = k := by omega
            have hjI : ¬ (j : Int) < (k : Int) := by omega
            have HBZ := Lib.hid (Below.to EW7.out HBO.out EW7.out.size)
            go_wp2_with fail
            refine (lives_any _).mono ?_
            rintro e w99 ⟨rfl, hb99⟩
            have HB99 := Lib.hid (Below.to HBZ.out hb99 HBZ.out.size)
            clear hb99
            go_wp2_with fail
            go_ret
            exact ⟨rfl, HB99.out⟩

end Go.Proofs.Ytbiedadgejgnoaa
