/-
  The law ServiceOrder: its walk.
-/
import Derived.Test.YtdhiefgbajogcaaVO1
import Derived.Test.YtdhiefgbajogcaaRtZ
namespace Go.Proofs.Ytdhiefgbajogcaa
open Go.RowKit

/-- The returns of each attempt in the reverse order. -/
def revA (a : At) : At := ⟨a.ent, a.par, a.car, a.sent, a.own.reverse⟩
theorem ret_last {n : Nat} {R : List At} {x : At} {r : Ret} {k : Nat} (hk : R.length = k) (hc : chkF n (x.own ++ [r]) = 0) : retE n (R ++ [x]) (k : Int) r = 0 ∧ retL n (R ++ [x]) (k : Int) r = R ++ [⟨x.ent, x.par, x.car, x.sent, x.own ++ [r]⟩] := by
  subst hk
  have hl : R.length < (R ++ [x]).length := by simp
  obtain ⟨h1, h2⟩ := ret_in (n := n) (r := r) hl
  have e : (R ++ [x])[R.length] = x := by simp
  rw [e] at h1 h2
  rw [h1, h2, if_pos hc]
  exact ⟨hc, by simp⟩
theorem rev_ok {n : Nat} {l : List At} (h : GenAts n l) : AtsOk n (l.map revA) := fun a ha => by
  obtain ⟨b, hb, rfl⟩ := List.mem_map.1 ha
  have h1 := (h.ok b hb)
  obtain ⟨h2, h3⟩ := h1.rets
  exact AtOk.of h1.head (fun r hr => h2 r (by simpa [revA] using hr)) (by simpa [revA] using h3)
theorem IsAts.sl3 {w : World} {v : Value} {l : List At} (h : IsAts w v l) : ∃ a n c, v = .slice a n c := by
  obtain ⟨a, c, rfl, -⟩ := h.open
  exact ⟨a, _, c, rfl⟩
theorem rev_of (f : At → Int × Bool) (cs : List (Int × Int)) (e p : Int) (l : List At) (h : ∀ a ∈ l, f (revA a) = f a) : ofF f cs e p (l.map revA) = ofF f cs e p l := by
  unfold ofF
  rw [List.length_map]
  congr 1
  refine candTo_congr (fun i => ?_) _
  rw [List.getElem?_map]
  cases hi : l[i]? with
  | none => rfl
  | some a =>
    have ha := List.mem_of_getElem? hi
    simp only [Option.map_some]
    rw [h a ha]
    rfl

set_option maxHeartbeats 4000000 in
set_option maxRecDepth 100000 in
theorem serviceOrder_any (c l : List Int) (v u : Value) (en pa : Int) (w : World) (hx : IsInts w v c) (hc : ∀ x ∈ c, I64 x) (hy : IsInts w u l) (hl : ∀ x ∈ l, I64 x) (he : I64 en) (hp : I64 pa) :
    Calls Try.prog 9 #[.agg #[v, u, .int .i64 en, .int .i64 pa]] w fun e w' => e = .returned (.bool true) ∧ Below w.heap.size w w' := by
  obtain ⟨a1, c1, rfl, -, -, -⟩ := hx.open
  obtain ⟨a2, c2, rfl, -, -, -⟩ := hy.open
  obtain ⟨W0, hW0⟩ : ∃ W0, W0 = w.alloc (.cells #[.slice a1 c.length c1, .slice a2 l.length c2, .int .i64 en, .int .i64 pa] 35) := ⟨_, rfl⟩
  obtain ⟨P, hP⟩ : ∃ P, P = w.heap.size := ⟨_, rfl⟩
  have FP : Hid (CaseAt W0 P (.slice a1 c.length c1) (.slice a2 l.length c2) en pa) := by show CaseAt _ _ _ _ _ _; rw [hW0, hP]; exact CaseAt.new _ _ _ _ _
  have hb0 : Below w.heap.size w W0 := by rw [hW0]; exact (Below.refl _ _).alloc (Nat.le_refl _) _
  have HB0 := Lib.hid hb0
  have HMA := Lib.hid (made21 c l _ _ en pa W0 (hx.below hb0) hc (hy.below hb0) hl)
  have HNE : Hid (∀ W, Calls Try.prog 23 #[.agg #[.slice a1 c.length c1, .slice a2 l.length c2, .int .i64 en, .int .i64 pa]] W fun r w' => r = .returned (.tuple #[.int .i64 (around en 5), .int .i64 (around pa 3)]) ∧ Below W.heap.size W w') := fun W => near21 _ _ en pa he hp W
  have HP := Lib.hid hP
  have HW0 := Lib.hid hW0
  clear hx hc hy hl he hp hW0 hP hb0
  have z := FP.out.cells
  obtain ⟨z0, z1, z2, z3⟩ := z
  go_enter Try.func9, Try.ntmps9
  go_wp2_with fail
  rw [← HW0.out]
  refine HMA.out.mono ?_
  rintro e w1 ⟨v1, v2, rfl, cs, ats, HG, HR, hv1, hv2, b1⟩
  have HV1 := Lib.hid hv1
  have HV2 := Lib.hid hv2
  have E1 := Lib.hid b1
  have FP := Lib.hid (FP.out.below b1)
  obtain ⟨a3, c3, rfl, -, -, -⟩ := hv1.open
  obtain ⟨a4, c4, rfl, -, -⟩ := hv2.open
  clear hv1 hv2 b1 HMA z0 z1 z2 z3
  obtain ⟨z0, z1, z2, z3⟩ := FP.out.cells
  rw [← HP.out]
  go_wp2_with fail
  refine (HNE.out _).mono ?_
  rintro e w2 ⟨rfl, b2⟩
  have HV1 := Lib.hid (HV1.out.below b2)
  have HV2 := Lib.hid (HV2.out.below b2)
  have E2 := Lib.hid (Below.to E1.out b2 E1.out.size)
  have FP := Lib.hid (FP.out.below b2)
  clear b2 z0 z1 z2 z3
  generalize around en 5 = en' at *
  generalize around pa 3 = pa' at *
  obtain ⟨f, hf⟩ := svd_all cs
  have HF := Lib.hid hf
  have hl8 := HR.out.2
  have hcl4 := HG.out.2.2
  clear hf HNE
  obtain ⟨o, ho⟩ : ∃ o, ofF f cs en' pa' ats = o := ⟨_, rfl⟩
  have HO1 : Hid (∀ (v y : Value) (w : World), IsAts w v ats → IsSps w y cs → Calls Try.prog 24 #[v, .int .i64 en', .int .i64 pa', y] w (fun e w' => e = .returned (.tuple #[.agg (svLit o), .bool o.isSome]) ∧ Below w.heap.size w w')) := fun v y w h1 h2 => by
    have h := svcOf f ats cs v y en' pa' w h1 h2 (by omega) (by omega) HR.out.1.ok HG.out.1.ok (fun a ha => HF.out a (HR.out.1.ok.sent ha))
    rw [ho] at h
    exact h
  have HO2 : Hid (∀ (v y : Value) (w : World), IsAts w v (ats.map revA) → IsSps w y cs → Calls Try.prog 24 #[v, .int .i64 en', .int .i64 pa', y] w (fun e w' => e = .returned (.tuple #[.agg (svLit o), .bool o.isSome]) ∧ Below w.heap.size w w')) := fun v y w h1 h2 => by
    have h := svcOf f (ats.map revA) cs v y en' pa' w h1 h2 (by rw [List.length_map]; omega) (by omega) (rev_ok HR.out.1) HG.out.1.ok (fun a ha => HF.out a ((rev_ok HR.out.1).sent ha))
    rw [rev_of f cs en' pa' ats (fun a ha => by
      have h1 := HF.out a (HR.out.1.ok.sent ha)
      have h2 : Svd a.own.reverse cs a.sent (f (revA a)) := HF.out (revA a) (show 0 ≤ a.sent ∧ a.sent ≤ 3652058 from HR.out.1.ok.sent ha)
      exact Svd.eq h2 h1 (fun p _ => excF_perm (List.reverse_perm a.own) cs p)), ho] at h
    exact h
  have HCK : Hid (∀ (v y : Value) (w : World), IsAts w v (ats.map revA) → IsSps w y cs → Calls Try.prog 14 #[v, y] w (fun e w' => e = .returned (.int .i64 0) ∧ Below w.heap.size w w')) := fun v y w h1 h2 => by
    have h := svcCheckL (ats.map revA) cs v y w h1 h2
    rw [(rev_ok HR.out.1).chk (by rw [List.length_map]; omega)] at h
    exact h
  obtain ⟨x, y, z, hs⟩ := svLit_three o
  obtain ⟨b, hb⟩ : ∃ b, o.isSome = b := ⟨_, rfl⟩
  rw [hs, hb] at HO1 HO2
  clear hs hb ho HF
  go_wp2_with fail
  go_loopw [7, 8] (fun q i wr => ∃ (k : Nat) (vo : Value), vo = q ∧ i = .int .i64 k ∧ k ≤ ats.length ∧ Hid (IsAts wr vo ((ats.take k).map revA)) ∧ Hid (Below w2.heap.size w2 wr)) (fun _ i _ => ats.length - (intOf i).toNat)
  case atStart => exact ⟨0, _, rfl, rfl, Nat.zero_le _, Lib.hid (IsAts.nil _ _ _), Lib.hid (Below.refl _ _)⟩
  case round =>
    obtain ⟨k, vo, rfl, rfl, hk, HVO, HBR⟩ := hrel
    obtain ⟨wo, rfl⟩ : ∃ wo : World, wo = wr := ⟨_, rfl⟩
    have ek : IntKind.i64.wrap ((k : Int) + 1) = ((k + 1 : Nat) : Int) := by rw [IntKind.wrap_i64]; omega
    by_cases hkl : k < ats.length
    · obtain ⟨_, _, e5, -, -, hcl'⟩ := (HV2.out.below HBR.out).open
      obtain ⟨b5, o5, ux, e9, hus, d0, d1, d2, d3, d4⟩ := hcl' k hkl
      subst e9
      simp only [Value.slice.injEq, true_and] at e5
      obtain ⟨rfl, -⟩ := e5
      have hkI : (k : Int) < (ats.length : Int) := by omega
      have HTS : Hid ((ats.take (k + 1)).map revA = (ats.take k).map revA ++ [revA ats[k]]) := by show _ = _; rw [List.take_succ_eq_append_getElem hkl, List.map_append]; rfl
      have HTL : Hid (((ats.take k).map revA).length = k) := by show _ = _; rw [List.length_map, List.length_take]; omega
      have HRO : Hid (∀ x ∈ (ats.take k).map revA, x.own.length ≤ 1000000) := fun x hx => by
        obtain ⟨b, hb, rfl⟩ := List.mem_map.1 hx
        have := (HR.out.1.ok b (List.mem_of_mem_take hb)).rets.2
        simp [revA]
        omega
      have hga := HR.out.1 ats[k] (List.getElem_mem hkl)
      have HGA : Hid (AtOk cs.length ats[k]) := hga.ok
      obtain ⟨ua, uc, rfl⟩ := hus.sl
      have HUS := Lib.hid hus
      have hblt : b5 < wo.heap.size := World.block_lt_of_cell? _ _ d0
      have HD4 : Hid (∀ X, Below wo.heap.size wo X → X.cell? ⟨b5, o5 + k * 5 + 4, none⟩ = some (.slice ua ats[k].own.length uc)) := fun X hX => (hX.cell (p := ⟨b5, o5 + k * 5 + 4, none⟩) hblt).trans d4
      clear hus hcl' hga hblt
      generalize ats[k] = a at *
      obtain ⟨ae, ap, ac, an, ow⟩ := a
      simp only at d0 d1 d2 d3 d4 HGA HUS HD4
      generalize (ats.take k).map revA = R at *
      have HWL := HGA.out.rets.2
      simp only at HWL
      have HBG : Hid (∀ (v y : Value) (w : World), IsAts w v R → IsSps w y cs → Calls Try.prog 18 #[v, .agg #[.int .i64 ae, .int .i64 ap, .int .i64 ac, .int .i64 an, .slice none 0 0], y] w fun e w' => ∃ v', e = .returned (.tuple #[v', .int .i64 0]) ∧ IsAts w' v' (R ++ [⟨ae, ap, ac, an, []⟩]) ∧ Below w.heap.size w w') := fun v y w h1 h3 => by
        have h := svcBegin R ⟨ae, ap, ac, an, []⟩ cs v (.slice none 0 0) y w h1 (IsRts.nil w none 0) h3 (by rw [HTL.out]; omega) HRO.out (by simp)
        have h0 : chkA cs.length ⟨ae, ap, ac, an, []⟩ = 0 := AtOk.of HGA.out.head (fun r hr => by cases hr) (by simp)
        rw [h0, show beginL cs.length R ⟨ae, ap, ac, an, []⟩ = R ++ [⟨ae, ap, ac, an, []⟩] from if_pos h0] at h
        exact h
      have HRE : Hid (∀ (p : Nat) (hp : p < ow.length) (v y : Value) (w : World), IsAts w v (R ++ [⟨ae, ap, ac, an, (ow.drop (p + 1)).reverse⟩]) → IsSps w y cs → Calls Try.prog 20 #[v, .int .i64 k, .agg (litRt ow[p]), y] w fun e w' => ∃ v', e = .returned (.tuple #[v', .int .i64 0]) ∧ IsAts w' v' (R ++ [⟨ae, ap, ac, an, (ow.drop p).reverse⟩]) ∧ Below w.heap.size w w') := fun p hp v y w h1 h3 => by
        have h := svcReturn (R ++ [⟨ae, ap, ac, an, (ow.drop (p + 1)).reverse⟩]) (k : Int) ow[p] cs v y w h1 h3 (by rw [List.length_append, HTL.out]; simp; omega) (fun x hx => by
          rcases List.mem_append.1 hx with g | g
          · exact HRO.out x g
          · rw [List.mem_singleton.1 g]; simp; omega)
        have he : (ow.drop p).reverse = (ow.drop (p + 1)).reverse ++ [ow[p]] := by rw [List.drop_eq_getElem_cons hp, List.reverse_cons]
        have hc : chkF cs.length ((ow.drop (p + 1)).reverse ++ [ow[p]]) = 0 := by
          rw [← he]
          exact chkF_rets (fun r hr => HGA.out.rets.1 r (List.mem_of_mem_drop (by simpa using hr))) (by simp; omega)
        obtain ⟨g1, g2⟩ := ret_last (n := cs.length) (R := R) (x := ⟨ae, ap, ac, an, (ow.drop (p + 1)).reverse⟩) (r := ow[p]) HTL.out hc
        rw [g1, g2] at h
        rw [he]
        exact h
      have HTS2 : Hid ((ats.take (k + 1)).map revA = R ++ [⟨ae, ap, ac, an, (ow.drop 0).reverse⟩]) := HTS.out
      have HD9 : Hid (R ++ [(⟨ae, ap, ac, an, []⟩ : At)] = R ++ [⟨ae, ap, ac, an, (ow.drop ow.length).reverse⟩]) := by show _ = _; rw [List.drop_length]; rfl
      clear HTS HGA HRO HTL
      have hal := heap_alloc_new wo (.cells #[.int .i64 ae, .int .i64 ap, .int .i64 ac, .int .i64 an, .slice none 0 0] 29)
      obtain ⟨⟨z0, z1, z2, z3, z4⟩, -⟩ := five_of hal
      have hb4 : Below wo.heap.size wo (wo.alloc (.cells #[.int .i64 ae, .int .i64 ap, .int .i64 ac, .int .i64 an, .slice none 0 0] 29)) := (Below.refl _ _).alloc (Nat.le_refl _) _
      obtain ⟨X4, hX4⟩ : ∃ X, X = wo.alloc (.cells #[.int .i64 ae, .int .i64 ap, .int .i64 ac, .int .i64 an, .slice none 0 0] 29) := ⟨_, rfl⟩
      rw [← hX4] at hb4
      have HB4 := Lib.hid hb4
      have HX4 := Lib.hid hX4
      obtain ⟨a7, n7, c7, rfl⟩ := HVO.out.sl3
      clear hal hX4 hb4
      go_wp2_with fail
      rw [← HX4.out]
      refine (HBG.out _ _ X4 (HVO.out.below HB4.out) ((HV1.out.below HBR.out).below HB4.out)).mono ?_
      rintro e w5 ⟨v5, rfl, hv5, b5x⟩
      have HB5 := Lib.hid (Below.to HB4.out b5x HB4.out.size)
      have z9 := HD4.out _ HB5.out
      rw [HD9.out] at hv5
      have HV5 := Lib.hid hv5
      obtain ⟨a8, n8, c8, rfl⟩ := hv5.sl3
      obtain ⟨j0, hj0⟩ : ∃ j : Int, j = (ow.length : Int) - 1 := ⟨_, rfl⟩
      have hw0 : IntKind.i64.wrap ((ow.length : Int) - 1) = j0 := by rw [IntKind.wrap_i64]; omega
      have HJ0 := Lib.hid hj0
      clear hv5 b5x z0 z1 z2 z3 z4 d0 d1 d2 d3 d4 hj0
      go_wp2_with fail
      go_loopw [7, 12] (fun q i wr => ∃ (p : Nat) (j : Int) (vi : Value), vi = q ∧ i = .int .i64 j ∧ Hid (j = (p : Int) - 1) ∧ p ≤ ow.length ∧ Hid (IsAts wr vi (R ++ [⟨ae, ap, ac, an, (ow.drop p).reverse⟩])) ∧ Hid (Below wo.heap.size wo wr)) (fun _ i _ => (intOf i + 1).toNat)
      case atStart => exact ⟨ow.length, j0, _, rfl, rfl, HJ0, Nat.le_refl _, HV5, HB5⟩
      case round =>
        obtain ⟨p, j, vi, rfl, rfl, HJ, hp, HVI, HBI⟩ := hrel
        obtain ⟨a9, n9, c9, rfl⟩ := HVI.out.sl3
        have z8 := HD4.out _ HBI.out
        cases p with
        | zero =>
          have hj : j = -1 := by have := HJ.out; omega
          subst hj
          have HB9 := Lib.hid (Below.to HBR.out HBI.out HBR.out.size)
          rw [← HTS2.out] at HVI
          go_wp2_with fail
          go_roundw
          case rel => exact ⟨k + 1, _, rfl, by go_num, by omega, HVI, HB9⟩
          case measure => simp [intOf]; omega
        | succ p =>
          have hj : j = (p : Int) := by have := HJ.out; omega
          subst hj
          have hpl : p < ow.length := by omega
          have hplI : (p : Int) < (ow.length : Int) := by omega
          have hpN : ¬ (p : Int) < 0 := by omega
          have hpG : (0 : Int) ≤ (p : Int) := by omega
          obtain ⟨b3, o3, q3, e3, hb3, g0, g1, g2, g3⟩ := (HUS.out.below HBI.out).at hpl
          simp only [Value.slice.injEq, true_and] at e3
          obtain ⟨rfl, -⟩ := e3
          have HRP := Lib.hid (HRE.out p hpl)
          obtain ⟨j1, hj1⟩ : ∃ j : Int, j = (p : Int) - 1 := ⟨_, rfl⟩
          have hw1 : IntKind.i64.wrap ((p : Int) - 1) = j1 := by rw [IntKind.wrap_i64]; omega
          have HJ1 := Lib.hid hj1
          generalize ow[p] = r at *
          obtain ⟨r0, r1, r2, r3⟩ := r
          simp only at g0 g1 g2 g3
          clear hj1
          go_wp2_with fail
          refine (HRP.out _ _ wr HVI.out ((HV1.out.below HBR.out).below HBI.out)).mono ?_
          rintro e w6 ⟨v6, rfl, hv6, b6⟩
          have HV6 := Lib.hid hv6
          have HB6 := Lib.hid (Below.to HBI.out b6 HBI.out.size)
          obtain ⟨a10, n10, c10, rfl⟩ := hv6.sl3
          clear hv6 b6 g0 g1 g2 g3
          go_wp2_with fail
          go_roundw
          case rel => exact ⟨p, j1, _, rfl, by go_num, HJ1, by omega, HV6, HB6⟩
          case measure => have := HJ1.out; simp [intOf]; omega
    · have hke : k = ats.length := by omega
      have hkI : ¬ (k : Int) < (ats.length : Int) := by omega
      rw [hke, List.take_length] at HVO
      have HV1 := Lib.hid (HV1.out.below HBR.out)
      have HV2 := Lib.hid (HV2.out.below HBR.out)
      have E3 := Lib.hid (Below.to E2.out HBR.out E2.out.size)
      obtain ⟨a9, n9, c9, rfl⟩ := HVO.out.sl3
      clear hke
      go_wp2_with fail
      refine (HO1.out _ _ _ HV2.out HV1.out).mono ?_
      rintro e w5 ⟨rfl, b5⟩
      have b5 := Below.alloc b5 b5.size (.cells #[.int .i64 x, .int .i64 y, .int .i64 z] 48)
      have F1 := Lib.hid (Kept.new w5 x y z)
      obtain ⟨G1, hG1⟩ : ∃ G1, G1 = w5.heap.size := ⟨_, rfl⟩
      obtain ⟨X5, hX5⟩ : ∃ X, X = w5.alloc (.cells #[.int .i64 x, .int .i64 y, .int .i64 z] 48) := ⟨_, rfl⟩
      rw [← hX5] at b5 F1
      rw [← hG1] at F1
      have HV1 := Lib.hid (HV1.out.below b5)
      have HVO := Lib.hid (HVO.out.below b5)
      have E5 := Lib.hid (Below.to E3.out b5 E3.out.size)
      have HX5 := Lib.hid hX5
      have HG1 := Lib.hid hG1
      clear b5 hX5 hG1
      go_wp2_with fail
      rw [← HX5.out, ← HG1.out]
      refine (HO2.out _ _ _ HVO.out HV1.out).mono ?_
      rintro e w6 ⟨rfl, b6⟩
      have b6 := Below.alloc b6 b6.size (.cells #[.int .i64 x, .int .i64 y, .int .i64 z] 48)
      obtain ⟨p0, p1, p2⟩ := (F1.out.below b6).cells
      obtain ⟨q0, q1, q2⟩ := (Kept.new w6 x y z).cells
      have HV1 := Lib.hid (HV1.out.below b6)
      have HVO := Lib.hid (HVO.out.below b6)
      have E6 := Lib.hid (Below.to E5.out b6 E5.out.size)
      clear b6
      cases b
      all_goals
        go_wp2_with fail
        refine (HCK.out _ _ _ HVO.out HV1.out).mono ?_
        rintro e w7 ⟨rfl, b7⟩
        have E7 := Lib.hid (Below.to E6.out b7 E6.out.size)
        clear b7
        go_wp2_with fail
        refine (lives21 _).mono ?_
        rintro e w8 ⟨rfl, b8⟩
        have E8 := Lib.hid (Below.to HB0.out (Below.to E7.out b8 E7.out.size) HB0.out.size)
        clear b8
        go_wp2_with fail
        go_ret
        exact ⟨rfl, E8.out⟩

end Go.Proofs.Ytdhiefgbajogcaa
