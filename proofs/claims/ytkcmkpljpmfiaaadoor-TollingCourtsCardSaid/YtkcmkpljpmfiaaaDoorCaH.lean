/-
  TollingCourts: the walk.
-/
import Derived.Test.YtkcmkpljpmfiaaaDoorCaG
import Derived.Test.YtkcmkpljpmfiaaaDoorLiv
import Derived.Deep.RegionLaw
namespace Go.Proofs.YtkcmkpljpmfiaaaDoor
open Go.RowKit

/-- Which days of the week a made calendar is closed on. -/
def wkF (b0 b5 b6 : Bool) (j : Nat) : Bool := if j = 0 then b0 else if j = 5 then b5 else if j = 6 then b6 else false
theorem calC_eq (b0 b5 b6 : Bool) (hv cv : Value) (z : Int) (sv : Value) (hr : Int) : calC b0 b5 b6 hv cv z sv hr = calE (wkF b0 b5 b6) hv cv (.int .i64 z) sv (.int .i64 hr) := rfl
theorem wkF_open (b0 b5 b6 : Bool) : ∀ j, 1 ≤ j → j ≤ 4 → wkF b0 b5 b6 j = false := by
  intro j h1 h4
  unfold wkF
  rw [if_neg (by omega), if_neg (by omega), if_neg (by omega)]
theorem cloS_snoc (cl : List Clo) (k : Nat) (hk : k < cl.length) : cloS (cl.take (k + 1)) = cloS (cl.take k) ++ [(cl[k].f, cl[k].u)] := by
  unfold cloS
  rw [List.take_succ_eq_append_getElem hk, List.map_append]
  rfl

set_option maxHeartbeats 2000000 in
set_option maxRecDepth 100000 in
theorem tollingCourts_any (l : List Int) (v : Value) (a b : Int) (w : World) (hx : IsInts w v l) (hl : ∀ x ∈ l, I64 x) (ha : I64 a) (hb : I64 b) (hT : Tabs w) :
    Calls Tryd.prog 3 #[v, .int .i64 a, .int .i64 b] w fun e w' => e = .returned (.bool true) ∧ Below w.heap.size w w' := by
  have HCAL := Lib.hid (calendar_any l v w hx hl)
  have HA := Lib.hid (fun W => around_any a 120 ha (by omega) W)
  have HB := Lib.hid (fun W => around_any b 40 hb (by omega) W)
  have ha0 := around_lo a 120 (by omega)
  have ha1 := around_hi a 120 (by omega)
  have hb0 := around_lo b 40 (by omega)
  have hb1 := around_hi b 40 (by omega)
  generalize around a 120 = A at *
  generalize around b 40 = B at *
  have HT := Lib.hid hT
  obtain ⟨av, acap, rfl, -, -, -⟩ := hx.open
  clear hx hl ha hb hT
  go_enter Tryd.func3, Tryd.ntmps3
  go_wp2_with fail
  refine HCAL.out.mono ?_
  rintro e w1 ⟨vc, rfl, b0', b5', b6', hv, cv, z, sa, sn, sc, hr, rfl, hs, cl, HH, HC, hhos, hcls, hbw1⟩
  rw [calC_eq]
  obtain ⟨ch, cch, rfl, -, -, -⟩ := hhos.open
  obtain ⟨cc, ccc, rfl, hclm, -, -⟩ := hcls.open
  obtain ⟨wk, hwk⟩ : ∃ wk, wkF b0' b5' b6' = wk := ⟨_, rfl⟩
  have hwo := wkF_open b0' b5' b6'
  rw [hwk] at hwo ⊢
  clear hwk HCAL
  obtain ⟨Q, hQ⟩ : ∃ Q, Q = w1.heap.size := ⟨_, rfl⟩
  obtain ⟨W1, hW1⟩ : ∃ W1, W1 = w1.alloc (.cells (calE wk (.slice ch hs.length cch) (.slice cc cl.length ccc) (.int .i64 z) (.slice sa sn sc) (.int .i64 hr)) 30) := ⟨_, rfl⟩
  have hrow : W1.heap[Q]? = some (.cells (calE wk (.slice ch hs.length cch) (.slice cc cl.length ccc) (.int .i64 z) (.slice sa sn sc) (.int .i64 hr)) 30 (0, 0)) := by rw [hW1, hQ]; exact heap_alloc_new w1 _
  have hb11 : Below w1.heap.size w1 W1 := by rw [hW1]; exact (Below.refl _ _).alloc (Nat.le_refl _) _
  have hbW : Below w.heap.size w W1 := Below.to hbw1 hb11 hbw1.size
  have hQl : Q < W1.heap.size := (Array.getElem?_eq_some_iff.1 hrow).1
  have HROW : Hid (∀ W, Below W1.heap.size W1 W → W.heap[Q]? = some (.cells (calE wk (.slice ch hs.length cch) (.slice cc cl.length ccc) (.int .i64 z) (.slice sa sn sc) (.int .i64 hr)) 30 (0, 0))) := fun W hW => (hW.block Q hQl).trans hrow
  have HHO := Lib.hid (hhos.below hb11)
  have HCL := Lib.hid (hcls.below hb11)
  have HT1 : Hid (Tabs W1) := HT.out.below hbW
  have HW1 := Lib.hid hW1
  have HQ := Lib.hid hQ
  have HBW := Lib.hid hbW
  have HWO := Lib.hid hwo
  clear hhos hcls hbw1 hrow hb11 hbW hQl hW1 hQ hwo HT
  unfold calE at HW1 HROW ⊢
  go_wp2_with fail
  rw [← HW1.out, ← HQ.out]
  have HE8 : Hid (∀ W, Below W1.heap.size W1 W → W.cell? ⟨Q, 8, none⟩ = some (.slice cc cl.length ccc)) := fun W hW => by
    have h := HROW.out W hW
    simp [World.cell?, h]
  go_loopw [9, 10] (fun o i wr => ∃ (j : Nat) (vs : Value), vs = o ∧ i = .int .i64 j ∧ j ≤ cl.length ∧ Hid (wr.ownsRow W1.heap.size 36 2 vs j (spCells (cloS (cl.take j)))) ∧ Hid (Below W1.heap.size W1 wr)) (fun _ i _ => 10 - (intOf i).toNat)
  case atStart => exact ⟨0, _, rfl, rfl, Nat.zero_le _, Lib.hid (World.ownsRow_nil _ _ _ _), Lib.hid (Below.refl _ _)⟩
  case round =>
    obtain ⟨j, vs, rfl, rfl, hj, HO, HBR⟩ := hrel
    have e8 := HE8.out wr HBR.out
    have hcl3 := HC.out.2
    obtain ⟨a3, c3, rfl, hjc, hjm⟩ := owns_slice HO.out
    by_cases hlt : (j : Int) < (cl.length : Int)
    · have hjn : j < cl.length := by omega
      obtain ⟨_, c9, e9, -, -, hc⟩ := (HCL.out.below HBR.out).open
      obtain ⟨b5, o5, rfl, hlt5, c0, c1, c2⟩ := hc j hjn
      simp only [Value.slice.injEq, true_and] at e9
      obtain ⟨rfl, rfl⟩ := e9
      have HTK := Lib.hid (cloS_snoc cl j hjn)
      obtain ⟨x, hx⟩ : ∃ x, cl[j] = x := ⟨_, rfl⟩
      rw [hx] at c0 c1 c2 HTK
      clear hx hc c2
      obtain ⟨xf, xu, xk⟩ := x
      simp only at c0 c1 HTK
      have HN1 : Hid (j + 1 ≤ maxLen) := (by show _ ≤ _; unfold maxLen; omega)
      have HN2 : Hid ((j + 1) * 16 ≤ 140737488355328) := (by show _ ≤ _; omega)
      have HBA : Hid (∀ X : Obj, Below wr.heap.size wr ((wr.alloc X).drew)) := fun X => ((Below.refl _ _).alloc (Nat.le_refl _) _).drew
      have HSA : Hid (∀ X : Obj, W1.heap.size ≤ ((wr.alloc X).drew).heap.size) := fun X => Nat.le_trans HBR.out.size (HBA.out X).size
      have HRA : Hid (Rd ((wr.alloc (.cells (litShf xf xu) 36)).drew) (.slice (some ⟨wr.heap.size, 0, none⟩) 1 1) 2 1 (spRow (xf, xu))) := (Rd.lit wr (litShf xf xu) 36 2 1 rfl (by unfold maxLen; omega)).below ((Below.refl _ _).drew)
      go_wp2_with fail
      go_region_law
        (first
          | (refine step_append_rd (by rfl) _ _ 32 (by rfl) W1.heap.size 36 _ 2 16 Tryd.underlying32 infoSp rfl (by decide) (.slice a3 j c3) j (spCells (cloS (cl.take j))) (by rfl) (owns_below HO.out (HBA.out _)) _ 1 (spRow (xf, xu)) (by rfl) HRA.out (spRow_one1 _) HN1.out HN2.out (HSA.out _) ?_
             intro v8 w8 hv8 hg8
             have HV8 := Lib.hid hv8
             have HB8 := Lib.hid (below_append (Below.to HBR.out (HBA.out _) HBR.out.size) (owns_below HO.out (HBA.out _)) hg8 (HSA.out _))
             clear hv8 hg8))
      all_goals
        have HO8 : Hid (w8.ownsRow W1.heap.size 36 2 v8 (j + 1) (spCells (cloS (cl.take (j + 1))))) := by
          show World.ownsRow _ _ _ _ _ _ _
          rw [HTK.out, spCells_append, spCells_one1]
          exact HV8.out
        clear HV8 HBA HSA HRA e8 c0 c1
        go_wp2_with fail
        go_roundw
        case rel => exact ⟨j + 1, _, rfl, by go_num, by omega, HO8, HB8⟩
        case measure => simp [intOf]; omega
    · obtain rfl : j = cl.length := by omega
      obtain ⟨wo, rfl⟩ : ∃ wo, wo = wr := ⟨_, rfl⟩
      have HSP : Hid (IsSps wo (.slice a3 cl.length c3) (cloS cl)) := by
        have h := IsSps.of_owns HO.out
        rw [List.take_length] at h
        exact h
      have hCl : (cloS cl).length ≤ 100000 := by unfold cloS; rw [List.length_map]; omega
      obtain ⟨x, hx1, hx2, hx3⟩ := ext_court (st := 739596 + A) (due := 739596 + A + B) HC.out.1 (by omega) (by omega) (by omega)
      obtain ⟨e0, he1, he2, heo⟩ := open_exists (K := 739916) HWO.out HH.out.2 HC.out.1
      obtain ⟨due, hdue⟩ : ∃ due, 739596 + A + B = due := ⟨_, rfl⟩
      have hd1 : 739596 ≤ due := by omega
      have hd2 : due ≤ 739760 := by omega
      have HEX := Lib.hid (extend_fun (cloS cl) _ (739596 + A) due wo HSP.out hCl (cloS_B HC.out.1) (cloS_val HC.out.1) (by unfold DayB; omega) (by unfold DayB; omega))
      rw [hdue] at hx1 hx2
      rw [hx1] at HEX
      have HNX : Hid (∀ W d, Below W1.heap.size W1 W → 739596 ≤ d → d ≤ 739886 → Calls Tryd.prog 7 #[.agg #[.bool (wk 0), .bool (wk 1), .bool (wk 2), .bool (wk 3), .bool (wk 4), .bool (wk 5), .bool (wk 6), .slice ch hs.length cch, .slice cc cl.length ccc, .int .i64 z, .slice sa sn sc, .int .i64 hr], .int .i64 d, .int .i64 739916] W fun ex w' => (∃ r, ex = .returned (.tuple #[.int .i64 r, .int .i64 0]) ∧ d ≤ r ∧ r ≤ e0 ∧ shutF wk hs cl 739916 r = false ∧ ∀ x, d ≤ x → x < r → shutF wk hs cl 739916 x = true) ∧ Below W.heap.size W w') := fun W d hW h1 h2 =>
        next_day_any wk hs cl _ _ _ _ _ 739916 d W (HHO.out.below hW) (HCL.out.below hW) HH.out.1 (by have := HH.out.2; omega) (by omega) (HT1.out.below hW) (by omega) e0 (by omega) (by omega) heo
      have HCN : Hid (∀ W u (n : Nat), Below W1.heap.size W1 W → u ≤ 740000 → (n : Int) = u - due + 1 → Calls Tryd.prog 8 #[.agg #[.bool (wk 0), .bool (wk 1), .bool (wk 2), .bool (wk 3), .bool (wk 4), .bool (wk 5), .bool (wk 6), .slice ch hs.length cch, .slice cc cl.length ccc, .int .i64 z, .slice sa sn sc, .int .i64 hr], .int .i64 due, .int .i64 u, .int .i64 739916] W fun e w' => e = .returned (.int .i64 (cntUp (fun d => !shutF wk hs cl 739916 d) due n)) ∧ Below W.heap.size W w') := fun W u n hW h1 h2 =>
        count_any wk hs cl _ _ _ _ _ 739916 due u n W (HHO.out.below hW) (HCL.out.below hW) HH.out.1 (by have := HH.out.2; omega) (by omega) (HT1.out.below hW) (by omega) h1 h2
      have HDY : Hid (∀ W u, Below wo.heap.size wo W → due ≤ u → u ≤ 740000 → Calls Tryd.prog 9 #[.slice a3 cl.length c3, .int .i64 due, .int .i64 u] W fun e w' => e = .returned (.int .i64 (daysF due u (mrg (cloS cl)))) ∧ Below W.heap.size W w') := fun W u hW h1 h2 =>
        days_fun (cloS cl) _ due u W (HSP.out.below hW) hCl (cloS_B HC.out.1) (cloS_val HC.out.1) (by unfold DayB; omega) (by unfold DayB; omega)
      clear HSP hx1 HE8 HO
      go_wp2_with fail
      clear e8
      refine (HA.out _).mono ?_
      rintro e w' ⟨rfl, rfl⟩
      go_wp2_with fail
      refine (HB.out _).mono ?_
      rintro e w' ⟨rfl, rfl⟩
      have hwd : IntKind.i64.wrap (739596 + A + B) = due := by rw [hdue, IntKind.wrap_i64]; omega
      go_wp2_with fail
      try rw [hdue]
      refine HEX.out.mono ?_
      rintro e w2 ⟨rfl, hb2⟩
      have HB2 := Lib.hid (Below.to HBR.out hb2 HBR.out.size)
      have HO2 := Lib.hid hb2
      clear hb2 HEX
      go_wp2_with (refine wpList_load_row rfl 30 _ rfl Q rfl 30 #[.bool (wk 0), .bool (wk 1), .bool (wk 2), .bool (wk 3), .bool (wk 4), .bool (wk 5), .bool (wk 6), .slice ch hs.length cch, .slice cc cl.length ccc, .int .i64 z, .slice sa sn sc, .int .i64 hr] (0, 0) _ (HROW.out _ HB2.out) Tryd.underlying30 rfl (by rw [infoCal]; rfl) ?_)
      refine (HNX.out _ due HB2.out (by omega) (by omega)).mono ?_
      rintro e w3 ⟨⟨r1, rfl, f1, f2, f3, f4⟩, hb3⟩
      have HB3 := Lib.hid (Below.to HB2.out hb3 HB2.out.size)
      have HO3 := Lib.hid (Below.to HO2.out hb3 HO2.out.size)
      clear hb3
      go_wp2_with (refine wpList_load_row rfl 30 _ rfl Q rfl 30 #[.bool (wk 0), .bool (wk 1), .bool (wk 2), .bool (wk 3), .bool (wk 4), .bool (wk 5), .bool (wk 6), .slice ch hs.length cch, .slice cc cl.length ccc, .int .i64 z, .slice sa sn sc, .int .i64 hr] (0, 0) _ (HROW.out _ HB3.out) Tryd.underlying30 rfl (by rw [infoCal]; rfl) ?_)
      refine (HNX.out _ x HB3.out (by omega) (by omega)).mono ?_
      rintro e w4 ⟨⟨r2, rfl, g1, g2, g3, g4⟩, hb4⟩
      have HB4 := Lib.hid (Below.to HB3.out hb4 HB3.out.size)
      have HO4 := Lib.hid (Below.to HO3.out hb4 HO3.out.size)
      have hr12 : r1 ≤ r2 := by
        refine Classical.byContradiction fun hn => ?_
        rw [f4 r2 (by omega) (by omega)] at g3
        cases g3
      obtain ⟨n, hn⟩ : ∃ n : Nat, (n : Int) = r2 - due + 1 := ⟨(r2 - due + 1).toNat, by omega⟩
      have HCC := count_court (wk := wk) (hs := hs) (K := 739916) (f := due) (u := r2) HC.out.1 (by omega) hn
      have HCP := cntUp_pos (fun d => !shutF wk hs cl 739916 d) due n
      have hD0 := daysF_pos due r2 (mrg (cloS cl))
      obtain ⟨k1, k2, k3⟩ := mrg_law (cloS_val HC.out.1)
      have hD1 := daysF_le (f := due) (u := r2) (hi := 739740) (lo := 739616) k2 k1 (mrg_in (cloS_val HC.out.1) (cloS_in HC.out.1)) (by omega)
      have HCN4 := Lib.hid (HCN.out w4 r2 n HB4.out (by omega) hn)
      have HDY4 := Lib.hid (fun W hW => HDY.out W r2 hW (by omega) (by omega))
      generalize cntUp (fun d => !shutF wk hs cl 739916 d) due n = C at *
      generalize daysF due r2 (mrg (cloS cl)) = D at *
      clear hb4 f3 f4 g3 g4 HNX HCN HDY k1 k2 k3 heo
      go_wp2_with (refine wpList_load_row rfl 30 _ rfl Q rfl 30 #[.bool (wk 0), .bool (wk 1), .bool (wk 2), .bool (wk 3), .bool (wk 4), .bool (wk 5), .bool (wk 6), .slice ch hs.length cch, .slice cc cl.length ccc, .int .i64 z, .slice sa sn sc, .int .i64 hr] (0, 0) _ (HROW.out _ HB4.out) Tryd.underlying30 rfl (by rw [infoCal]; rfl) ?_)
      refine HCN4.out.mono ?_
      rintro e w5 ⟨rfl, hb5⟩
      have HB5 := Lib.hid (Below.to HB4.out hb5 HB4.out.size)
      have HO5 := Lib.hid (Below.to HO4.out hb5 HO4.out.size)
      have HDZ := Lib.hid (HDY4.out w5 HO5.out)
      clear hb5 HCN4 HDY4
      go_wp2_with fail
      refine HDZ.out.mono ?_
      rintro e w6 ⟨rfl, hb6⟩
      have HB6 := Lib.hid (Below.to HB5.out hb6 HB5.out.size)
      have HLV := Lib.hid (lives_any w6)
      clear hb6 HDZ
      go_wp2_with fail
      refine HLV.out.mono ?_
      rintro e w7 ⟨rfl, hb7⟩
      have HBF := Lib.hid (Below.to HBW.out (Below.to HB6.out hb7 HB6.out.size) HBW.out.size)
      clear hb7 HLV
      go_wp2_with fail
      go_ret
      exact ⟨rfl, HBF.out⟩

end Go.Proofs.YtkcmkpljpmfiaaaDoor
