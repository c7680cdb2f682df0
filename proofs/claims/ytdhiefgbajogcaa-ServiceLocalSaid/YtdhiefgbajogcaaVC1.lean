/-
  The law ServiceLocal: its walk.
-/
import Derived.Test.YtdhiefgbajogcaaVO1
import Derived.Test.YtdhiefgbajogcaaRtS
namespace Go.Proofs.Ytdhiefgbajogcaa
open Go.RowKit

/-- The attempts for one entry and one party, and their indices: both slices are the call's own. -/
structure LocAt (X W : World) (vo vi : Value) (own : List At) (us : List Value) (idx : List Int) : Prop where
  len : us.length = own.length
  row : W.ownsRow X.heap.size 29 5 vo own.length (atCells own us)
  inn : ∀ i (h : i < own.length) (h' : i < us.length), IsRts X us[i] own[i].own
  ids : W.ownsRow X.heap.size 3 1 vi idx.length (ints idx)
  bel : Below X.heap.size X W
theorem LocAt.reads {X W : World} {vo vi : Value} {own : List At} {us : List Value} {idx : List Int} (h : LocAt X W vo vi own us idx) : IsAts W vo own ∧ IsInts W vi idx :=
  ⟨⟨us, h.len, Rd.of_owns h.row, fun i hi hi' => (h.inn i hi hi').below h.bel⟩, IsInts.of_owns h.ids⟩

set_option maxHeartbeats 4000000 in
set_option maxRecDepth 100000 in
theorem serviceLocal_any (c l : List Int) (v u : Value) (en pa : Int) (w : World) (hx : IsInts w v c) (hc : ∀ x ∈ c, I64 x) (hy : IsInts w u l) (hl : ∀ x ∈ l, I64 x) (he : I64 en) (hp : I64 pa) :
    Calls Try.prog 7 #[.agg #[v, u, .int .i64 en, .int .i64 pa]] w fun e w' => e = .returned (.bool true) ∧ Below w.heap.size w w' := by
  obtain ⟨a1, c1, rfl, -, -, -⟩ := hx.open
  obtain ⟨a2, c2, rfl, -, -, -⟩ := hy.open
  obtain ⟨W0, hW0⟩ : ∃ W0, W0 = w.alloc (.cells #[.slice a1 c.length c1, .slice a2 l.length c2, .int .i64 en, .int .i64 pa] 35) := ⟨_, rfl⟩
  obtain ⟨P, hP⟩ : ∃ P, P = w.heap.size := ⟨_, rfl⟩
  have FP : Hid (CaseAt W0 P (.slice a1 c.length c1) (.slice a2 l.length c2) en pa) := by show CaseAt _ _ _ _ _ _; rw [hW0, hP]; exact CaseAt.new _ _ _ _ _
  have hb0 : Below w.heap.size w W0 := by rw [hW0]; exact (Below.refl _ _).alloc (Nat.le_refl _) _
  have HB0 := Lib.hid hb0
  have HMA := Lib.hid (made21 c l _ _ en pa W0 (hx.below hb0) hc (hy.below hb0) hl)
  have HNE : Hid (∀ W, Calls Try.prog 23 #[.agg #[.slice a1 c.length c1, .slice a2 l.length c2, .int .i64 en, .int .i64 pa]] W fun r w' => r = .returned (.tuple #[.int .i64 (around en 5), .int .i64 (around pa 3)]) ∧ Below W.heap.size W w') := fun W => near21 _ _ en pa he hp W
  have HP := Lib.hid hP
  have HW0 := Lib.hid hW0
  clear hx hc hy hl he hp hW0 hP hb0
  have z := FP.out.cells
  obtain ⟨z0, z1, z2, z3⟩ := z
  go_enter Try.func7, Try.ntmps7
  go_wp2_with fail
  rw [← HW0.out]
  refine HMA.out.mono ?_
  rintro e w1 ⟨v1, v2, rfl, cs, ats, HG, HR, hv1, hv2, b1⟩
  have HV1 := Lib.hid hv1
  have HV2 := Lib.hid hv2
  have E1 := Lib.hid b1
  have FP := Lib.hid (FP.out.below b1)
  obtain ⟨a3, c3, rfl, -, -, -⟩ := hv1.open
  obtain ⟨a4, c4, rfl, -, -⟩ := hv2.open
  clear hv1 hv2 b1 HMA z0 z1 z2 z3
  obtain ⟨z0, z1, z2, z3⟩ := FP.out.cells
  rw [← HP.out]
  go_wp2_with fail
  refine (HNE.out _).mono ?_
  rintro e w2 ⟨rfl, b2⟩
  have HV1 := Lib.hid (HV1.out.below b2)
  have HV2 := Lib.hid (HV2.out.below b2)
  have E2 := Lib.hid (Below.to E1.out b2 E1.out.size)
  have FP := Lib.hid (FP.out.below b2)
  clear b2 z0 z1 z2 z3
  generalize around en 5 = en' at *
  generalize around pa 3 = pa' at *
  obtain ⟨f, hsv, hof⟩ := of_both ats cs HG.out HR.out
  have HOF := Lib.hid hof
  clear hof
  have HSV := Lib.hid hsv
  have hl8 := HR.out.2
  have hcl4 := HG.out.2.2
  clear hsv
  go_wp2_with fail
  go_loopw [7, 8, 9] (fun o q i wr => ∃ (k : Nat) (vo vi : Value) (own : List At) (us : List Value) (idx : List Int), vo = o ∧ vi = q ∧ i = .int .i64 k ∧ k ≤ ats.length ∧ Hid (SubAt en' pa' ats k own idx) ∧ Hid (LocAt w2 wr vo vi own us idx)) (fun _ _ i _ => ats.length - (intOf i).toNat)
  case atStart => exact ⟨0, _, _, [], [], [], rfl, rfl, rfl, Nat.zero_le _, Lib.hid (SubAt.start _ _ _), Lib.hid ⟨rfl, World.ownsRow_nil _ _ _ _, (fun _ h => absurd h (Nat.not_lt_zero _)), World.ownsRow_nil _ _ _ _, Below.refl _ _⟩⟩
  case round =>
    obtain ⟨k, vo, vi, own, us, idx, rfl, rfl, rfl, hk, HS, HL⟩ := hrel
    have ek : IntKind.i64.wrap ((k : Int) + 1) = ((k + 1 : Nat) : Int) := by rw [IntKind.wrap_i64]; omega
    have HBR := Lib.hid HL.out.bel
    have hole := HS.out.le
    have hidl : idx.length ≤ own.length := by have := HS.out.len; omega
    by_cases hkl : k < ats.length
    · obtain ⟨_, _, e5, -, -, hcl'⟩ := HV2.out.open
      obtain ⟨b5, o5, ux, e9, hus, d0, d1, d2, d3, d4⟩ := hcl' k hkl
      subst e9
      simp only [Value.slice.injEq, true_and] at e5
      obtain ⟨rfl, -⟩ := e5
      have hblt : b5 < w2.heap.size := World.block_lt_of_cell? _ _ d0
      have HB := HBR.out
      have d0 := (HB.cell (p := ⟨b5, o5 + k * 5, none⟩) hblt).trans d0
      have d1 := (HB.cell (p := ⟨b5, o5 + k * 5 + 1, none⟩) hblt).trans d1
      have d2 := (HB.cell (p := ⟨b5, o5 + k * 5 + 2, none⟩) hblt).trans d2
      have d3 := (HB.cell (p := ⟨b5, o5 + k * 5 + 3, none⟩) hblt).trans d3
      have d4 := (HB.cell (p := ⟨b5, o5 + k * 5 + 4, none⟩) hblt).trans d4
      have HST := Lib.hid (fun hm => HS.out.take hkl hm)
      have HSK := Lib.hid (fun hm => HS.out.skip hkl hm)
      obtain ⟨ua, uc, rfl⟩ := hus.sl
      have HUS := Lib.hid hus
      clear hus hcl' HB
      generalize ats[k] = a at *
      obtain ⟨ae, ap, ac, an, ow⟩ := a
      simp only at d0 d1 d2 d3 d4 HST HSK HUS
      have hkI : (k : Int) < (ats.length : Int) := by omega
      by_cases hm1 : ae = en'
      · by_cases hm2 : ap = pa'
        · subst hm1
          subst hm2
          have HS2 := Lib.hid (HST.out (by simp [matB]))
          have HLX : Hid (∀ W : World, Rd (W.alloc (.cells #[.int .i64 ae, .int .i64 ap, .int .i64 ac, .int .i64 an, .slice ua ow.length uc] 29)) (.slice (some ⟨W.heap.size, 0, none⟩) 1 1) 5 1 (atRow ⟨ae, ap, ac, an, ow⟩ (.slice ua ow.length uc))) := fun W => Rd.lit W #[.int .i64 ae, .int .i64 ap, .int .i64 ac, .int .i64 an, .slice ua ow.length uc] 29 5 1 rfl (by unfold maxLen; omega)
          have HLI : Hid (∀ W : World, Rd (W.alloc (.cells #[.int .i64 (k : Int)] 3)) (.slice (some ⟨W.heap.size, 0, none⟩) 1 1) 1 1 [.int .i64 (k : Int)]) := fun W => Rd.lit W #[.int .i64 (k : Int)] 3 1 1 rfl (by unfold maxLen; omega)
          clear HST HSK
          obtain ⟨a6, c6, rfl, -, -⟩ := owns_slice HL.out.row
          obtain ⟨a7, c7, rfl, -, -⟩ := owns_slice HL.out.ids
          have hsz := HBR.out.size
          go_wp2_with (at_builtin; go_must (refine wpList_append_rd rfl _ _ 22 rfl w2.heap.size 29 _ 5 56 Try.underlying22 infoAt rfl (by decide) (.slice a6 own.length c6) own.length (atCells own us) rfl (owns_below HL.out.row ?b0) _ 1 (atRow ⟨ae, ap, ac, an, ow⟩ (.slice ua ow.length uc)) rfl (HLX.out _) (atRow_one _ rfl) ?b1 ?b2 ?b3 ?_))
          case b0 => exact (Below.refl _ _).alloc (Nat.le_refl _) _
          case b1 => unfold maxLen; omega
          case b2 => omega
          case b3 => first | omega | (simp; omega)
          intro v4 w4 hv4 hg4
          have hrow1 := owns_below HL.out.row ((Below.refl wr.heap.size wr).alloc (Nat.le_refl _) (.cells #[.int .i64 ae, .int .i64 ap, .int .i64 ac, .int .i64 an, .slice ua ow.length uc] 29))
          have hids1 := owns_below HL.out.ids ((Below.refl wr.heap.size wr).alloc (Nat.le_refl _) (.cells #[.int .i64 ae, .int .i64 ap, .int .i64 ac, .int .i64 an, .slice ua ow.length uc] 29))
          have HID4 := Lib.hid (hids1.kept hg4 (owns_apart hids1 hrow1 (by decide)))
          have HB4 := Lib.hid (below_append (Below.to HBR.out ((Below.refl _ _).alloc (Nat.le_refl _) _) hsz) hrow1 hg4 (by simp; omega))
          have hsz4 : w2.heap.size ≤ w4.heap.size := by have := hg4.size; simp at this; omega
          have HV4 := Lib.hid hv4
          obtain ⟨a8, c8, rfl, -, -⟩ := owns_slice hv4
          clear hv4 hg4 hrow1 hids1 d0 d1 d2 d3 d4
          go_wp2_with (at_builtin; go_must (refine wpList_append_rd rfl _ _ 23 rfl w2.heap.size 3 _ 1 8 Try.underlying23 infoInt rfl (by decide) (.slice a7 idx.length c7) idx.length (ints idx) rfl (owns_below HID4.out ?b0) _ 1 [.int .i64 (k : Int)] rfl (HLI.out _) (ints_one [(k : Int)]) ?b1 ?b2 ?b3 ?_))
          case b0 => exact (Below.refl _ _).alloc (Nat.le_refl _) _
          case b1 => unfold maxLen; omega
          case b2 => omega
          case b3 => first | omega | (simp; omega)
          intro v5 w5 hv5 hg5
          have hids1 := owns_below HID4.out ((Below.refl w4.heap.size w4).alloc (Nat.le_refl _) (.cells #[.int .i64 (k : Int)] 3))
          have hrow1 := owns_below HV4.out ((Below.refl w4.heap.size w4).alloc (Nat.le_refl _) (.cells #[.int .i64 (k : Int)] 3))
          have hrow5 := hrow1.kept hg5 (owns_apart hrow1 hids1 (by decide))
          have hb5 := below_append (Below.to HB4.out ((Below.refl _ _).alloc (Nat.le_refl _) _) hsz4) hids1 hg5 (by simp; omega)
          have HL2 : Hid (LocAt w2 w5 (.slice a8 (own.length + 1) c8) v5 (own ++ [⟨ae, ap, ac, an, ow⟩]) (us ++ [.slice ua ow.length uc]) (idx ++ [(k : Int)])) := by
            have hlen := HL.out.len
            refine ⟨by simp [hlen], ?_, ?_, ?_, hb5⟩
            · rw [atCells_append own us hlen, List.length_append, List.length_singleton]
              exact hrow5
            · intro i hi hi'
              by_cases e : i < own.length
              · rw [List.getElem_append_left (by omega), List.getElem_append_left e]
                exact HL.out.inn i e (by omega)
              · have e2 : i = own.length := by simp at hi; omega
                subst e2
                have e1 : (us ++ [(Value.slice ua ow.length uc)])[own.length] = .slice ua ow.length uc := by rw [List.getElem_append_right (by omega)]; simp [hlen]
                have e3 : (own ++ [(⟨ae, ap, ac, an, ow⟩ : At)])[own.length] = ⟨ae, ap, ac, an, ow⟩ := by simp
                rw [e1, e3]
                exact HUS.out
            · rw [ints_append, List.length_append, List.length_singleton]
              exact hv5
          obtain ⟨a9, c9, rfl, -, -⟩ := owns_slice hv5
          clear hv5 hg5 hids1 hrow1 hrow5 hb5 HV4 HB4 HID4
          go_wp2_with fail
          go_roundw
          case rel => exact ⟨k + 1, _, _, _, _, _, rfl, rfl, by go_num, by omega, HS2, HL2⟩
          case measure => simp [intOf]; omega
        · have HS2 := Lib.hid (HSK.out (by simp [matB, hm2]))
          clear HST HSK
          go_wp2_with fail
          go_roundw
          case rel => exact ⟨k + 1, _, _, _, _, _, rfl, rfl, by go_num, by omega, HS2, HL⟩
          case measure => simp [intOf]; omega
      · have HS2 := Lib.hid (HSK.out (by simp [matB, hm1]))
        clear HST HSK
        go_wp2_with fail
        go_roundw
        case rel => exact ⟨k + 1, _, _, _, _, _, rfl, rfl, by go_num, by omega, HS2, HL⟩
        case measure => simp [intOf]; omega
    · have hke : k = ats.length := by omega
      have hkI : ¬ (k : Int) < (ats.length : Int) := by omega
      rw [hke] at HS
      obtain ⟨hown, hidx⟩ := HL.out.reads
      have hol := HS.out.le
      have HV1 := Lib.hid (HV1.out.below HBR.out)
      have HV2 := Lib.hid (HV2.out.below HBR.out)
      have E3 := Lib.hid (Below.to E2.out HBR.out E2.out.size)
      have HOWN := Lib.hid hown
      have HIDX := Lib.hid hidx
      obtain ⟨oo, hoo⟩ : ∃ o, ofF f cs en' pa' own = o := ⟨_, rfl⟩
      have hsame : ofF f cs en' pa' ats = oo.map (reIdx idx) := by rw [← hoo]; exact HS.out.same f cs
      have HO1 : Hid (∀ (v y : Value) (w : World), IsAts w v ats → IsSps w y cs →
          Calls Try.prog 24 #[v, .int .i64 en', .int .i64 pa', y] w (fun e w' => e = .returned (.tuple #[.agg (svLit (oo.map (reIdx idx))), .bool (oo.map (reIdx idx)).isSome]) ∧ Below w.heap.size w w')) := fun v q w h1 h2 => by
        have h := (HOF.out en' pa' v q w h1 h2).1
        rw [hsame] at h
        exact h
      have HO2 : Hid (∀ (v y : Value) (w : World), IsAts w v own → IsSps w y cs →
          Calls Try.prog 24 #[v, .int .i64 en', .int .i64 pa', y] w (fun e w' => e = .returned (.tuple #[.agg (svLit oo), .bool oo.isSome]) ∧ Below w.heap.size w w')) := fun v q w h1 h2 => by
        have h := svcOf f own cs v q en' pa' w h1 h2 (by omega) (by omega) (fun a ha => HR.out.1.ok a (HS.out.sub a ha)) HG.out.1.ok (fun a ha => HSV.out a (HS.out.sub a ha))
        rw [hoo] at h
        exact h
      obtain ⟨a6, c6, rfl, -, -⟩ := owns_slice HL.out.row
      obtain ⟨a7, c7, rfl, -, -⟩ := owns_slice HL.out.ids
      have HLE := HS.out.len
      cases oo with
      | none =>
        have HO1' : Hid (∀ (v y : Value) (w : World), IsAts w v ats → IsSps w y cs →
          Calls Try.prog 24 #[v, .int .i64 en', .int .i64 pa', y] w (fun e w' => e = .returned (.tuple #[.agg #[.int .i64 0, .int .i64 0, .int .i64 0], .bool false]) ∧ Below w.heap.size w w')) := HO1
        have HO2' : Hid (∀ (v y : Value) (w : World), IsAts w v own → IsSps w y cs →
          Calls Try.prog 24 #[v, .int .i64 en', .int .i64 pa', y] w (fun e w' => e = .returned (.tuple #[.agg #[.int .i64 0, .int .i64 0, .int .i64 0], .bool false]) ∧ Below w.heap.size w w')) := HO2
        clear HO1 HO2 hown hidx hsame hoo HLE HL
        go_wp2_with fail
        refine (HO1'.out _ _ _ HV2.out HV1.out).mono ?_
        rintro e w5 ⟨rfl, b5⟩
        have b5 := Below.alloc b5 b5.size (.cells #[.int .i64 0, .int .i64 0, .int .i64 0] 48)
        obtain ⟨X5, hX5⟩ : ∃ X, X = w5.alloc (.cells #[.int .i64 0, .int .i64 0, .int .i64 0] 48) := ⟨_, rfl⟩
        rw [← hX5] at b5
        have HV1 := Lib.hid (HV1.out.below b5)
        have HOWN := Lib.hid (HOWN.out.below b5)
        have E5 := Lib.hid (Below.to E3.out b5 E3.out.size)
        have HX5 := Lib.hid hX5
        clear b5 hX5
        go_wp2_with fail
        rw [← HX5.out]
        refine (HO2'.out _ _ _ HOWN.out HV1.out).mono ?_
        rintro e w6 ⟨rfl, b6⟩
        have b6 := Below.alloc b6 b6.size (.cells #[.int .i64 0, .int .i64 0, .int .i64 0] 48)
        have E6 := Lib.hid (Below.to E5.out b6 E5.out.size)
        clear b6
        go_wp2_with fail
        refine (lives21 _).mono ?_
        rintro e w7 ⟨rfl, b7⟩
        have E7 := Lib.hid (Below.to HB0.out (Below.to E6.out b7 E6.out.size) HB0.out.size)
        clear b7
        go_wp2_with fail
        go_ret
        exact ⟨rfl, E7.out⟩
      | some s =>
        obtain ⟨i0, hi0, hs, -, -⟩ := ofF_in hoo
        obtain ⟨D, hD⟩ : ∃ D, (f own[i0]).1 = D := ⟨_, rfl⟩
        obtain ⟨E, hE⟩ : ∃ E, (cs.getD own[i0].car.toNat (0, 0)).1 = E := ⟨_, rfl⟩
        have hs2 : s = ⟨D, E, (i0 : Int)⟩ := by rw [hs, ← hD, ← hE]; rfl
        have hix : i0 < idx.length := by omega
        obtain ⟨J, hJ⟩ : ∃ J, idx[i0] = J := ⟨_, rfl⟩
        have hr : (some s).map (reIdx idx) = some ⟨D, E, J⟩ := by
          rw [hs2, ← hJ]
          show some (Sv.mk D E (idx.getD ((i0 : Int)).toNat 0)) = _
          rw [show ((i0 : Int)).toNat = i0 from by omega, List.getD_eq_getElem?_getD, List.getElem?_eq_getElem hix]
          rfl
        have HO1' : Hid (∀ (v y : Value) (w : World), IsAts w v ats → IsSps w y cs →
          Calls Try.prog 24 #[v, .int .i64 en', .int .i64 pa', y] w (fun e w' => e = .returned (.tuple #[.agg #[.int .i64 D, .int .i64 E, .int .i64 J], .bool true]) ∧ Below w.heap.size w w')) := fun v y w h1 h2 => by
          have h := HO1.out v y w h1 h2
          rw [hr] at h
          exact h
        have HO2' : Hid (∀ (v y : Value) (w : World), IsAts w v own → IsSps w y cs →
          Calls Try.prog 24 #[v, .int .i64 en', .int .i64 pa', y] w (fun e w' => e = .returned (.tuple #[.agg #[.int .i64 D, .int .i64 E, .int .i64 (i0 : Int)], .bool true]) ∧ Below w.heap.size w w')) := fun v y w h1 h2 => by
          have h := HO2.out v y w h1 h2
          rw [hs2] at h
          exact h
        obtain ⟨b9, o9, hJ9⟩ : ∃ b9 o9, a7 = some ⟨b9, o9, none⟩ ∧ wr.cell? ⟨b9, o9 + i0, none⟩ = some (.int .i64 J) := by
          obtain ⟨_, _, e7, -, -, hc7⟩ := hidx.open
          simp only [Value.slice.injEq, true_and] at e7
          obtain ⟨rfl, -⟩ := e7
          obtain ⟨b9, o9, rfl, h⟩ := hc7 i0 hix
          rw [hJ] at h
          exact ⟨b9, o9, rfl, h⟩
        obtain ⟨rfl, hJ9⟩ := hJ9
        have HJ9 := Lib.hid hJ9
        have HL9 : Hid (b9 < wr.heap.size) := World.block_lt_of_cell? _ _ hJ9
        have hixI : (i0 : Int) < (idx.length : Int) := by omega
        have hixG : ¬ (idx.length : Int) ≤ (i0 : Int) := by omega
        have hixN : ¬ (i0 : Int) < 0 := by omega
        clear HO1 HO2 hown hidx hsame hoo HLE HL hs hs2 hr hD hE hJ hJ9 hi0 hix hol hole
        go_wp2_with fail
        refine (HO1'.out _ _ _ HV2.out HV1.out).mono ?_
        rintro e w5 ⟨rfl, b5⟩
        have b5 := Below.alloc b5 b5.size (.cells #[.int .i64 D, .int .i64 E, .int .i64 J] 48)
        have F1 := Lib.hid (Kept.new w5 D E J)
        obtain ⟨G1, hG1⟩ : ∃ G1, G1 = w5.heap.size := ⟨_, rfl⟩
        obtain ⟨X5, hX5⟩ : ∃ X, X = w5.alloc (.cells #[.int .i64 D, .int .i64 E, .int .i64 J] 48) := ⟨_, rfl⟩
        rw [← hX5] at b5 F1
        rw [← hG1] at F1
        have HV1 := Lib.hid (HV1.out.below b5)
        have HOWN := Lib.hid (HOWN.out.below b5)
        have HJ9 := Lib.hid ((b5.cell (p := ⟨b9, o9 + i0, none⟩) HL9.out).trans HJ9.out)
        have HL9 : Hid (b9 < X5.heap.size) := Nat.lt_of_lt_of_le HL9.out b5.size
        have E5 := Lib.hid (Below.to E3.out b5 E3.out.size)
        have HX5 := Lib.hid hX5
        have HG1 := Lib.hid hG1
        clear b5 hX5 hG1
        go_wp2_with fail
        rw [← HX5.out, ← HG1.out]
        refine (HO2'.out _ _ _ HOWN.out HV1.out).mono ?_
        rintro e w6 ⟨rfl, b6⟩
        have F1 := Lib.hid (F1.out.below b6)
        have hF1 := F1.out.al (.cells #[.int .i64 D, .int .i64 E, .int .i64 J] 48)
        have hF2 := Kept.new w6 D E J
        have E6 := Lib.hid ((Below.to E5.out b6 E5.out.size).alloc (Below.to E5.out b6 E5.out.size).size (.cells #[.int .i64 D, .int .i64 E, .int .i64 J] 48))
        obtain ⟨p0, p1, p2⟩ := (Kept.new w6 D E (i0 : Int)).cells
        obtain ⟨q0, q1, q2⟩ := hF1.cells
        obtain ⟨r0, r1, r2⟩ := hF2.cells
        have j9 := (((Below.refl w6.heap.size w6).alloc (Nat.le_refl _) (.cells #[.int .i64 D, .int .i64 E, .int .i64 (i0 : Int)] 48)).cell (p := ⟨b9, o9 + i0, none⟩) (Nat.lt_of_lt_of_le HL9.out b6.size)).trans ((b6.cell (p := ⟨b9, o9 + i0, none⟩) HL9.out).trans HJ9.out)
        clear b6 hF1 hF2
        go_wp2_with fail
        refine (lives21 _).mono ?_
        rintro e w7 ⟨rfl, b7⟩
        have E7 := Lib.hid (Below.to HB0.out (Below.to E6.out b7 E6.out.size) HB0.out.size)
        clear b7
        go_wp2_with fail
        go_ret
        exact ⟨rfl, E7.out⟩

end Go.Proofs.Ytdhiefgbajogcaa
