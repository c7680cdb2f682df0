/-
  The program's Allowed and Served.
-/
import Derived.Test.YtbiedadgejgnoaaRtB
import Derived.Test.YtbiedadgejgnoaaCalm
import Derived.Test.YtbiedadgejgnoaaRtA
namespace Go.Proofs.Ytbiedadgejgnoaa
open Go.RowKit
attribute [local go_sem] Oper.semAt_some

theorem segments_any (a : Option Addr) (n c : Nat) (sent : Int) (w : World) :
    Calls Try.prog 34 #[.slice a n c, .int .i64 sent] w fun e w' => e = .returned (.func (.func 59) #[] #[.pointer (some ⟨w.heap.size + 1, 0, none⟩), .pointer (some ⟨w.heap.size, 0, none⟩)]) ∧
      w' = (w.alloc (.cells #[.slice a n c] 24)).alloc (.cells #[.int .i64 sent] 3) := by
  go_enter Try.func34, Try.ntmps34
  go_wp2
  go_ret
  exact ⟨rfl, rfl⟩

set_option maxHeartbeats 4000000 in
set_option maxRecDepth 100000 in
theorem allowed_any (l : List Ret) (cs : List (Int × Int)) (v u : Value) (sent : Int) (w : World) (hx : IsRts w v l) (hy : IsSps w u cs) (hl : l.length ≤ 32) (hcl : cs.length ≤ 1000) (hr : RetsOk cs.length l) (hc : CarOk cs) (hs0 : 0 ≤ sent) (hs : sent ≤ 3652058) :
    Calls Try.prog 18 #[v, u, .int .i64 sent] w fun e w' => ∃ (v' : Value) (nv : Bool), e = .returned (.tuple #[v', .bool nv]) ∧ ∃ out, Hid (Alw l cs sent out nv) ∧ IsSps w' v' out ∧ Below w.heap.size w w' := by
  have HX := Lib.hid hx
  have HY := Lib.hid hy
  have HRO := Lib.hid hr
  have HCO := Lib.hid hc
  have HEX : Hid (∀ v u d w, IsRts w v l → IsSps w u cs → Calls Try.prog 33 #[v, u, .int .i64 d] w fun e w' => e = .returned (.int .i64 (excF l cs d)) ∧ Below w.heap.size w w') := fun v u d w h1 h2 => excess_any l cs v u d w h1 h2 hl hr hc
  obtain ⟨a0, c0, rfl, -, -⟩ := hx.open
  obtain ⟨a1, c1, rfl, -, -, -⟩ := hy.open
  clear hx hy hr hc
  have hw1 : ∀ n, Fence.wide.depth.isSome = true → 1 ≤ n := fun n h => absurd h (by simp [Fence.wide])
  obtain ⟨wA, hwA⟩ : ∃ wA, wA = (w.alloc (.cells #[.slice a0 l.length c0] 24)).alloc (.cells #[.slice a1 cs.length c1] 23) := ⟨_, rfl⟩
  have hbA : Below w.heap.size w wA := by rw [hwA]; exact ((Below.refl _ _).alloc (Nat.le_refl _) _).alloc (by simp) _
  have hl1 : Boxed wA w.heap.size 24 (.slice a0 l.length c0) := by rw [hwA]; exact (Boxed.new w _ _).alloc _
  have hc1 : Boxed wA (w.heap.size + 1) 23 (.slice a1 cs.length c1) := by
    have := Boxed.new (w.alloc (.cells #[.slice a0 l.length c0] 24)) 23 (.slice a1 cs.length c1)
    rw [World.size_alloc] at this
    rw [hwA]
    exact this
  have hsA : wA.heap.size = w.heap.size + 2 := by rw [hwA]; simp
  have HWA := Lib.hid hwA
  have HBA := Lib.hid hbA
  have HSA := Lib.hid hsA
  have HEA := Lib.hid (HEX.out _ _ (-1) wA (HX.out.below hbA) (HY.out.below hbA))
  obtain ⟨E0, hE0⟩ : ∃ E0, excF l cs (-1) = E0 := ⟨_, rfl⟩
  rw [hE0] at HEA
  have HE0 := Lib.hid hE0
  have HL1 := Lib.hid hl1
  have HC1 := Lib.hid hc1
  clear hwA hbA hsA hl1 hc1 hE0
  refine (callsIn_wide (n := 5)).1 ?_
  refine callsIn_of_wp_marks Try.func18 rfl trivial ?_ rfl
  simp only [Try.ntmps18, List.size_toArray, List.length_cons, List.length_nil, Nat.reduceAdd, Nat.reduceSub, Array.replicate_succ, Array.replicate_zero, List.push_toArray, List.append_toArray, List.nil_append, List.cons_append]
  gi_wp2_with fail
  rw [← HWA.out]
  refine ⟨trivial, ?_⟩
  refine (callsIn_wide.2 HEA.out).mono ?_
  rintro e w1 ⟨rfl, hb1⟩
  have hl2 := HL1.out.kept (grown_of_below hb1) (by simp)
  have hc2 := HC1.out.kept (grown_of_below hb1) (by simp)
  have HB1 := Lib.hid (Below.to HBA.out hb1 HBA.out.size)
  have hs1 : w.heap.size + 2 ≤ w1.heap.size := by have := hb1.size; have := HSA.out; omega
  have e1 : ∀ o o' o'', (((w1.alloc o).alloc o').alloc o'').cell? ⟨w.heap.size, 0, none⟩ = some (.slice a0 l.length c0) := fun o o' o'' => (((hl2.alloc o).alloc o').alloc o'').cell
  have HL2 := Lib.hid hl2
  have HC2 := Lib.hid hc2
  clear hb1 hl2 hc2
  gi_wp2_with (refine ⟨trivial, ?_⟩; gi_at_call 34; refine (callsIn_wide.2 (segments_any _ _ _ _ _)).mono ?_; rintro e w' ⟨rfl, rfl⟩)
  obtain ⟨W0, hW0⟩ : ∃ W0, W0 = ((((w1.alloc (.cells #[.int .i64 E0] 3)).alloc (.cells #[.bool true] 4)).alloc (.cells #[.slice none 0 0] 33)).alloc (.cells #[.slice a0 l.length c0] 24)).alloc (.cells #[.int .i64 sent] 3) := ⟨_, rfl⟩
  rw [← hW0]
  obtain ⟨f8, f9, f10, fl, fs, fb, fz⟩ := five_boxes _ _ _ _ _ _ _ _ _ _ _ W0 hW0
  have hAL : AlAt w1.heap.size w (.slice a0 l.length c0) (.slice a1 cs.length c1) E0 true (.slice none 0 0) [] W0 :=
    ⟨f8, f9, f10, World.ownsRow_nil _ _ _ _, HL2.out.kept (grown_of_below fb) (by simp), HC2.out.kept (grown_of_below fb) (by simp), Below.to HB1.out fb HB1.out.size, by omega, hs1⟩
  clear hW0 f8 f9 f10 fb e1 HL1 HC1 HWA HBA HSA HEA HL2 HC2 HB1
  refine wpIn_rangeFunc_U rfl (by omega) (gf := 59) (lb := #[.pointer (some ⟨w1.heap.size + 1 + 1 + 1 + 1, 0, none⟩), .pointer (some ⟨w1.heap.size + 1 + 1 + 1, 0, none⟩)]) rfl trivial (enters_of Try.func59 (by kernel_rfl) rfl)
    (segments_seq _ l _ sent cs.length (w1.heap.size + 1 + 1 + 1) (w1.heap.size + 1 + 1 + 1 + 1) w1.heap.size w W0 HX.out fl fs hAL.bel (by omega) (by omega) HRO.out hs0 hs)
    KpSeg.trans (fun W l o o' _ h ho => KpSeg.put W l o o' h ho) (fun _ => rfl)
    (fun pre W => ∃ least nv vo out, AlAt w1.heap.size w (.slice a0 l.length c0) (.slice a1 cs.length c1) least nv vo out W ∧ Hid (AwAt l cs sent (endOf sent pre) least nv out) ∧ out.length ≤ pre.length) ?hI
    ⟨E0, true, .slice none 0 0, [], hAL, by show AwAt _ _ _ _ _ _ _; rw [endOf_nil, ← HE0.out]; exact AwAt.start _ _ _, Nat.le_refl _⟩
    (fun x a' W => ∃ sb, W0.heap.size ≤ sb ∧ a' = { tmps := #[.slice a0 l.length c0, .slice a1 cs.length c1, .int .i64 sent, .pointer (some ⟨w.heap.size, 0, none⟩), .pointer (some ⟨w.heap.size + 1, 0, none⟩), undef, .slice none 0 0, .bool false,
      .pointer (some ⟨w1.heap.size, 0, none⟩), .pointer (some ⟨w1.heap.size + 1, 0, none⟩), .pointer (some ⟨w1.heap.size + 1 + 1, 0, none⟩), .pointer (some ⟨sb, 0, none⟩), undef, undef, .slice a0 l.length c0, .slice a1 cs.length c1, .int .i64 E0, .slice a0 l.length c0, .int .i64 sent,
      .func (.func 59) #[] #[.pointer (some ⟨w1.heap.size + 1 + 1 + 1 + 1, 0, none⟩), .pointer (some ⟨w1.heap.size + 1 + 1 + 1, 0, none⟩)], .agg #[.int .i64 x.1, .int .i64 x.2], undef, undef, undef, undef, undef, undef, undef, undef, undef, undef, undef, undef, undef, undef, undef, undef, undef, undef, undef, undef, undef, undef, undef, undef, undef, undef, undef, undef, undef, undef, undef, undef, undef, undef, undef, undef, undef, undef, undef, undef, undef], defers := [] } ∧
      W.heap[sb]? = some (.cells #[.int .i64 x.1, .int .i64 x.2] 44 (0, 0))) ?hAx ?assign ?body ?done
  case hI =>
    rintro pre X Y row ⟨least, nv, vo, out, h1, h2, h3⟩ hg hr
    exact ⟨least, nv, vo, out, h1.own hg (fun r e => ⟨by have := (hr r e).1; omega, (hr r e).2⟩), h2, h3⟩
  case hAx =>
    rintro x a' s X Y row ⟨sb, h1, h2, h3⟩ hg hr
    refine ⟨sb, h1, h2, (hg.block sb (Array.getElem?_eq_some_iff.1 h3).1 (fun e => ?_)).trans h3⟩
    obtain ⟨-, o, ho, hc⟩ := hr sb e.symm
    rw [h3] at ho
    cases ho
    cases hc
  case assign =>
    rintro lp pre x W K hlp ⟨least, nv, vo, out, hA, hAw, hle⟩ hK
    have hgW : W.grownBy (W.alloc (.cells #[.int .i64 x.1, .int .i64 x.2] 44)) none := World.grownBy_alloc W _ none
    have hlt := hA.lt
    have HKK := Lib.hid (hK _ (W.alloc (.cells #[.int .i64 x.1, .int .i64 x.2] 44)) ((KeepsOthers.alloc W _).from _) (Rnd.grown hgW).2 ⟨least, nv, vo, out, hA.grown hgW, hAw, hle⟩ ⟨W.heap.size, by omega, rfl, World.alloc_heap_new W _⟩)
    clear hK
    simp only [encSp]
    gi_wp2_with fail
    exact HKK.out
  case body =>
    rintro lp pre x a' W hlp ⟨least, nv, vo, out, hA, hAw, hle⟩ ⟨sb, hsb, rfl, hcell⟩ ⟨post, hpost⟩
    obtain ⟨y, z⟩ := x
    obtain ⟨g1, g2, g3, g4, g5, g6⟩ := hpost.at hs0 hs
    simp only at g1 g2 g3 g4 g5 hcell ⊢
    have G5 := Lib.hid (g5 cs)
    have G1 := Lib.hid g1
    have HEC := Lib.hid (HEX.out _ _ y W (HX.out.below hA.bel) (HY.out.below hA.bel))
    have e1 := hA.bl.cell
    have e2 := hA.bc.cell
    have s0 : W.cell? ⟨sb, 0, none⟩ = some (.int .i64 y) := by simp [World.cell?, hcell]
    have HA := Lib.hid hA
    have HCL := Lib.hid hcell
    have HEB := Lib.hid (excF_B (l := l) (cs := cs) (d := y) (by omega) hcl HCO.out)
    have HEO : Hid (endOf sent (pre ++ [(y, z)]) = z + 1) := endOf_snoc _ _ _
    have HOL := Lib.hid hle
    have HG6 := Lib.hid g6
    obtain ⟨EY, hEY⟩ : ∃ EY, excF l cs y = EY := ⟨_, rfl⟩
    have HEY := Lib.hid hEY
    rw [hEY] at HEC HEB
    have hsbW := hA.lt
    have hlow := hA.lw
    clear g1 g5 hA hcell hpost hle g6 hEY
    -- BODY
    have hb0 : 0 ≤ EY ∧ EY ≤ 1000000 := HEB.out
    obtain ⟨hE1, hE2⟩ := hb0
    have HSK : Hid (EY ≤ least ∨ AwAt l cs sent (z + 1) least nv out) := by
      show _ ∨ _
      by_cases h : EY ≤ least
      · exact .inl h
      · right
        have := hAw.out.skip (u := z) (by rw [← G1.out]; exact g2) (by rw [← G1.out]; exact G5.out) (by rw [← G1.out, HEY.out]; omega)
        exact this
    have HBT : Hid (least ≤ EY ∨ AwAt l cs sent (z + 1) EY false [(y, z)]) := by
      show _ ∨ _
      by_cases h : least ≤ EY
      · exact .inl h
      · right
        have := hAw.out.better (u := z) (by rw [← G1.out]; exact g2) (by rw [← G1.out]; exact G5.out) (by rw [← G1.out, HEY.out]; omega)
        rw [← G1.out, HEY.out] at this
        exact this
    by_cases hgt : least < EY
    · have HN : Hid (AwAt l cs sent (z + 1) least nv out) := by
        rcases HSK.out with h | h
        · omega
        · exact h
      clear HSK HBT
      gi_wp2_with fail
      refine ⟨trivial, ?_⟩
      refine (CallsIn.inRound _ (callsIn_wide.2 HEC.out)).mono ?_
      rintro e W2 ⟨rfl, hb2⟩
      have HA2 := Lib.hid (HA.out.below hb2)
      have HR2 := Lib.hid (Rnd.below (Bx := w1.heap.size) hb2)
      have e3 := HA2.out.b8.cell
      clear hb2 e1 e2 s0
      gi_wp2_with fail
      refine ⟨HR2.out.1.from _, HR2.out.2, least, nv, vo, out, HA2.out, ?_, ?_⟩
      · show AwAt _ _ _ _ _ _ _
        rw [HEO.out]
        exact HN.out
      · have := HOL.out
        rw [List.length_append]
        omega
    · have hge : EY ≤ least := by omega
      by_cases hlt : EY < least
      · have HN : Hid (AwAt l cs sent (z + 1) EY false [(y, z)]) := by
          rcases HBT.out with h | h
          · omega
          · exact h
        clear HSK HBT hgt
        gi_wp2_with fail
        refine ⟨trivial, ?_⟩
        refine (CallsIn.inRound _ (callsIn_wide.2 HEC.out)).mono ?_
        rintro e W2 ⟨rfl, hb2⟩
        have hA2 := HA.out.below hb2
        have HR2 := Lib.hid (Rnd.below (Bx := w1.heap.size) hb2)
        have HC2 := Lib.hid ((hb2.block sb (Array.getElem?_eq_some_iff.1 HCL.out).1).trans HCL.out)
        have e3 := hA2.b8.cell
        have e4 := hA2.b8.frozen
        have e5 := hA2.b9.cell
        have e6 := hA2.b9.frozen
        have e7 := hA2.b10.cell
        have e8 := hA2.b10.frozen
        have HA3 := Lib.hid (((hA2.putLeast EY).putNever false).putNil)
        have HR3 : Hid (Rnd w1.heap.size W2 (((W2.setCell ⟨w1.heap.size, 0, none⟩ (.int .i64 EY)).setCell ⟨w1.heap.size + 1, 0, none⟩ (.bool false)).setCell ⟨w1.heap.size + 1 + 1, 0, none⟩ (.slice none 0 0))) :=
          ((Rnd.cell hA2.b8 (.inl rfl) 0 _).trans (Rnd.cell (hA2.putLeast EY).b9 (.inr (by decide)) 0 _)).trans (Rnd.cell ((hA2.putLeast EY).putNever false).b10 (.inr (by decide)) 0 _)
        have HC3 : Hid ((((W2.setCell ⟨w1.heap.size, 0, none⟩ (.int .i64 EY)).setCell ⟨w1.heap.size + 1, 0, none⟩ (.bool false)).setCell ⟨w1.heap.size + 1 + 1, 0, none⟩ (.slice none 0 0)).heap[sb]? = some (.cells #[.int .i64 y, .int .i64 z] 44 (0, 0))) := by
          show _ = _
          rw [Below.heap_setCell _ _ _ _ (by dsimp only; omega), Below.heap_setCell _ _ _ _ (by dsimp only; omega), Below.heap_setCell _ _ _ _ (by dsimp only; omega)]
          exact HC2.out
        clear hb2 e1 e2 s0 hA2
        obtain ⟨W3, hW3⟩ : ∃ W3, W3 = ((W2.setCell ⟨w1.heap.size, 0, none⟩ (.int .i64 EY)).setCell ⟨w1.heap.size + 1, 0, none⟩ (.bool false)).setCell ⟨w1.heap.size + 1 + 1, 0, none⟩ (.slice none 0 0) := ⟨_, rfl⟩
        have HW3 := Lib.hid hW3
        rw [← hW3] at HA3 HR3 HC3
        clear hW3
        have HRB := Lib.hid (HR2.out.trans HR3.out)
        clear HR3
        gi_wp2_with fail
        rw [← HW3.out]
        clear HW3 e3 e4 e5 e6 e7 e8
        refine wpIn_region_quiet_calm (by kernel_rfl) (by kernel_rfl) (by kernel_rfl) (by rintro ⟨_, _, h⟩; exact h) ?_
        apply Shut.out
        repeat (refine wpQuiet_step_h (fun K hK => ?_); go_simp; refine hK _ ?_; clear hK K)
        refine Shut.mk (wpQuiet_nil ?_)
        intro _ hw'
        obtain ⟨nq, hw''⟩ := hw'
        subst hw''
        obtain ⟨W4, hW4⟩ : ∃ W4, W4 = W3.drewN nq := ⟨_, rfl⟩
        rw [← hW4]
        have hb4 : Below W3.heap.size W3 W4 := by rw [hW4]; exact below_drewN (Below.refl _ _) nq
        have hA4 := HA3.out.below hb4
        have HA4 := Lib.hid hA4
        have HR4 := Lib.hid (HRB.out.trans (Rnd.below hb4))
        have HC4 := Lib.hid ((hb4.block sb (Array.getElem?_eq_some_iff.1 HC3.out).1).trans HC3.out)
        have k10 := hA4.b10.cell
        have kf := hA4.b10.frozen
        have s0 : W4.cell? ⟨sb, 0, none⟩ = some (.int .i64 y) := by simp [World.cell?, HC4.out]
        have s1 : W4.cell? ⟨sb, 1, none⟩ = some (.int .i64 z) := by simp [World.cell?, HC4.out]
        clear hW4 hb4 hA4 HA3 HC3 HRB
        have HROW : Hid (W4.ownsRow w.heap.size 44 2 (.slice none 0 0) 0 (spCells [])) := by
          have h := HA4.out.row
          skip
          exact h
        have HLX : Hid (∀ X : World, Rd (X.alloc (.cells (litSp (y, z)) 44)) (.slice (some ⟨X.heap.size, 0, none⟩) 1 1) 2 1 (spRow (y, z))) := fun X => Rd.lit X (litSp (y, z)) 44 2 1 rfl (by unfold maxLen; omega)
        gi_wp2_with (gi_at_builtin; go_must (refine wpListIn_append_rd rfl _ _ 33 rfl w.heap.size 44 _ 2 16 Try.underlying33 infoSp rfl (by decide) (.slice none 0 0) 0 (spCells []) rfl (owns_below HROW.out ((Below.refl _ _).alloc (Nat.le_refl _) _)) _ 1 (spRow (y, z)) rfl (HLX.out _) (spCells_one [(y, z)]) ?nil1 ?nil2 ?nil3 ?_))
        case nil1 => unfold maxLen; omega
        case nil2 => omega
        case nil3 => simp; have := HA4.out.lt; omega
        intro v7 w7 hv7 hg7
        have hgA : W4.grownBy (W4.alloc (.cells (litSp (y, z)) 44)) none := World.grownBy_alloc W4 _ none
        have hA5 := HA4.out.grown hgA
        have hO7 : w7.ownsRow w.heap.size 44 2 v7 ([] ++ [(y, z)]).length (spCells ([] ++ [(y, z)])) := by
          rw [spCells_append, spCells_single, List.length_append, List.length_singleton]
          exact hv7
        have HF7 := Lib.hid (hA5.append hO7 hg7)
        have k7 := hA5.b10.kept hg7 (hA5.b10.not_row (by decide) hA5.row)
        have HR7 : Hid (Rnd w1.heap.size W (w7.setCell ⟨w1.heap.size + 1 + 1, 0, none⟩ v7)) :=
          ((HR4.out.trans (Rnd.grown hgA)).trans (Rnd.row hA5.row (by decide) hg7)).trans (Rnd.cell k7 (.inr (by decide)) 0 _)
        obtain ⟨va, vc, rfl, -, -⟩ := owns_slice hO7
        have e9 := k7.cell
        have e10 := k7.frozen
        clear HROW hv7 hg7 hgA hA5 hO7 k7 HA4 HC4 HR4 k10 kf s0 s1 HLX
        skip
        gi_wp2_with fail
        refine ⟨HR7.out.1.from _, HR7.out.2, EY, false, _, _, HF7.out, ?_, ?_⟩
        · show AwAt _ _ _ _ _ _ _
          rw [HEO.out]
          exact HN.out
        · have := HOL.out
          simp only [List.length_append, List.length_singleton, List.length_nil] at this ⊢
          omega
      · obtain rfl : EY = least := by omega
        clear HSK HBT hgt hlt hge
        have HT1 : Hid (∀ hgap : ∀ s ∈ out, s.2 ≠ y - 1, AwAt l cs sent (z + 1) EY nv (out ++ [(y, z)])) := fun hgap => by
          have := hAw.out.push (u := z) (by rw [← G1.out]; exact g2) (by rw [← G1.out]; exact G5.out) (by rw [← G1.out]; exact HEY.out) (by rw [← G1.out]; exact hgap)
          rw [← G1.out] at this
          exact this
        have ey : IntKind.i64.wrap (y - 1) = y - 1 := by rw [IntKind.wrap_i64]; omega
        gi_wp2_with fail
        refine ⟨trivial, ?_⟩
        refine (CallsIn.inRound _ (callsIn_wide.2 HEC.out)).mono ?_
        rintro e W3 ⟨rfl, hb2⟩
        have HA3 := Lib.hid (HA.out.below hb2)
        have HRB := Lib.hid (Rnd.below (Bx := w1.heap.size) hb2)
        have HC3 := Lib.hid ((hb2.block sb (Array.getElem?_eq_some_iff.1 HCL.out).1).trans HCL.out)
        have e3 := HA3.out.b8.cell
        have e7 := HA3.out.b10.cell
        have s0' : W3.cell? ⟨sb, 0, none⟩ = some (.int .i64 y) := by simp [World.cell?, HC3.out]
        clear hb2 e1 e2 s0
        rcases List.eq_nil_or_concat out with rfl | ⟨zs, ⟨p, q⟩, rfl⟩
        · obtain ⟨a12, c12, rfl, -, -⟩ := owns_slice HA3.out.row
          have HN := Lib.hid (HT1.out (fun s h => by cases h))
          clear HT1
          gi_wp2_with fail
          clear e3 e7 s0'
          refine wpIn_region_quiet_calm (by kernel_rfl) (by kernel_rfl) (by kernel_rfl) (by rintro ⟨_, _, h⟩; exact h) ?_
          apply Shut.out
          repeat (refine wpQuiet_step_h (fun K hK => ?_); go_simp; refine hK _ ?_; clear hK K)
          refine Shut.mk (wpQuiet_nil ?_)
          intro _ hw'
          obtain ⟨nq, hw''⟩ := hw'
          subst hw''
          obtain ⟨W4, hW4⟩ : ∃ W4, W4 = W3.drewN nq := ⟨_, rfl⟩
          rw [← hW4]
          have hb4 : Below W3.heap.size W3 W4 := by rw [hW4]; exact below_drewN (Below.refl _ _) nq
          have hA4 := HA3.out.below hb4
          have HA4 := Lib.hid hA4
          have HR4 := Lib.hid (HRB.out.trans (Rnd.below hb4))
          have HC4 := Lib.hid ((hb4.block sb (Array.getElem?_eq_some_iff.1 HC3.out).1).trans HC3.out)
          have k10 := hA4.b10.cell
          have kf := hA4.b10.frozen
          have s0 : W4.cell? ⟨sb, 0, none⟩ = some (.int .i64 y) := by simp [World.cell?, HC4.out]
          have s1 : W4.cell? ⟨sb, 1, none⟩ = some (.int .i64 z) := by simp [World.cell?, HC4.out]
          clear hW4 hb4 hA4 HA3 HC3 HRB
          have HROW : Hid (W4.ownsRow w.heap.size 44 2 (.slice a12 0 c12) 0 (spCells [])) := by
            have h := HA4.out.row
            skip
            exact h
          have HLX : Hid (∀ X : World, Rd (X.alloc (.cells (litSp (y, z)) 44)) (.slice (some ⟨X.heap.size, 0, none⟩) 1 1) 2 1 (spRow (y, z))) := fun X => Rd.lit X (litSp (y, z)) 44 2 1 rfl (by unfold maxLen; omega)
          gi_wp2_with (gi_at_builtin; go_must (refine wpListIn_append_rd rfl _ _ 33 rfl w.heap.size 44 _ 2 16 Try.underlying33 infoSp rfl (by decide) (.slice a12 0 c12) 0 (spCells []) rfl (owns_below HROW.out ((Below.refl _ _).alloc (Nat.le_refl _) _)) _ 1 (spRow (y, z)) rfl (HLX.out _) (spCells_one [(y, z)]) ?nil21 ?nil22 ?nil23 ?_))
          case nil21 => unfold maxLen; omega
          case nil22 => omega
          case nil23 => simp; have := HA4.out.lt; omega
          intro v7 w7 hv7 hg7
          have hgA : W4.grownBy (W4.alloc (.cells (litSp (y, z)) 44)) none := World.grownBy_alloc W4 _ none
          have hA5 := HA4.out.grown hgA
          have hO7 : w7.ownsRow w.heap.size 44 2 v7 ([] ++ [(y, z)]).length (spCells ([] ++ [(y, z)])) := by
            rw [spCells_append, spCells_single, List.length_append, List.length_singleton]
            exact hv7
          have HF7 := Lib.hid (hA5.append hO7 hg7)
          have k7 := hA5.b10.kept hg7 (hA5.b10.not_row (by decide) hA5.row)
          have HR7 : Hid (Rnd w1.heap.size W (w7.setCell ⟨w1.heap.size + 1 + 1, 0, none⟩ v7)) :=
            ((HR4.out.trans (Rnd.grown hgA)).trans (Rnd.row hA5.row (by decide) hg7)).trans (Rnd.cell k7 (.inr (by decide)) 0 _)
          obtain ⟨va, vc, rfl, -, -⟩ := owns_slice hO7
          have e9 := k7.cell
          have e10 := k7.frozen
          clear HROW hv7 hg7 hgA hA5 hO7 k7 HA4 HC4 HR4 k10 kf s0 s1 HLX
          skip
          gi_wp2_with fail
          refine ⟨HR7.out.1.from _, HR7.out.2, EY, nv, _, _, HF7.out, ?_, ?_⟩
          · show AwAt _ _ _ _ _ _ _
            rw [HEO.out]
            exact HN.out
          · have := HOL.out
            simp only [List.length_append, List.length_singleton, List.length_nil] at this ⊢
            omega
        · rw [List.concat_eq_append] at *
          obtain ⟨g, cv, rfl, hg1, hg2, hcn⟩ := owns_some HA3.out.row (by simp)
          have hzl : zs.length ≤ 3652060 := by have := HOL.out; have := HG6.out; simp at this ⊢; rw [List.length_append, List.length_singleton] at *; omega
          have d1 : W3.cell? ⟨g, zs.length * 2 + 1, none⟩ = some (.int .i64 q) := by
            have h := HA3.out.row.cellAt (zs.length * 2 + 1) (by simp; omega)
            rw [h, spCells_append, List.getElem?_append_right (by rw [spCells_len]; omega), spCells_len]
            simp [spCells, spRow]
          have f1 : W3.frozen? ⟨g, zs.length * 2 + 1, none⟩ = false := HA3.out.row.frozenAt _
          have hlen1 : (zs ++ [(p, q)]).length = zs.length + 1 := by simp
          have hsub : IntKind.i64.wrap (((zs.length + 1 : Nat) : Int) - 1) = (zs.length : Int) := by rw [IntKind.wrap_i64]; omega
          have hw0 : IntKind.i64.wrap (zs.length : Int) = (zs.length : Int) := by rw [IntKind.wrap_i64]; omega
          have hp1 : (0 : Int) < (zs.length : Int) + 1 := by omega
          have hp2 : (zs.length : Int) < (zs.length : Int) + 1 := by omega
          by_cases hq : q = y - 1
          · have hqb : (q == y - 1) = true := by simpa using hq
            have HN : Hid (AwAt l cs sent (z + 1) EY nv (zs ++ [(p, z)])) := by
              have := hAw.out.join (u := z) (by rw [← G1.out]; exact g2) (by rw [← G1.out]; exact G5.out) (by rw [← G1.out]; exact HEY.out) (by rw [← G1.out]; exact hq)
              exact this
            clear HT1 hq
            gi_wp2_with fail
            refine wpIn_region_quiet_calm (by kernel_rfl) (by kernel_rfl) (by kernel_rfl) (by rintro ⟨_, _, h⟩; exact h) ?_
            apply Shut.out
            repeat (refine wpQuiet_step_h (fun K hK => ?_); go_simp; refine hK _ ?_; clear hK K)
            refine Shut.mk (wpQuiet_nil ?_)
            intro _ hw'
            obtain ⟨nq, hw''⟩ := hw'
            subst hw''
            obtain ⟨W4, hW4⟩ : ∃ W4, W4 = W3.drewN nq := ⟨_, rfl⟩
            rw [← hW4]
            have hb4 : Below W3.heap.size W3 W4 := by rw [hW4]; exact below_drewN (Below.refl _ _) nq
            have hA4 := HA3.out.below hb4
            have HA4 := Lib.hid hA4
            have HR4 := Lib.hid (HRB.out.trans (Rnd.below hb4))
            have HC4 := Lib.hid ((hb4.block sb (Array.getElem?_eq_some_iff.1 HC3.out).1).trans HC3.out)
            have k10 := hA4.b10.cell
            have kf := hA4.b10.frozen
            have s0 : W4.cell? ⟨sb, 0, none⟩ = some (.int .i64 y) := by simp [World.cell?, HC4.out]
            have s1 : W4.cell? ⟨sb, 1, none⟩ = some (.int .i64 z) := by simp [World.cell?, HC4.out]
            clear hW4 hb4 hA4 HA3 HC3 HRB
            have d2 : W4.cell? ⟨g, zs.length * 2 + 1, none⟩ = some (.int .i64 q) := by
              have h := HA4.out.row.cellAt (zs.length * 2 + 1) (by simp; omega)
              rw [h, spCells_append, List.getElem?_append_right (by rw [spCells_len]; omega), spCells_len]
              simp [spCells, spRow]
            have f1 : W4.frozen? ⟨g, zs.length * 2 + 1, none⟩ = false := HA4.out.row.frozenAt _
            have hset := spCells_set (zs ++ [(p, q)]) zs.length 1 (by simp) (by omega) (.int .i64 z) (p, z) (by simp [spRow])
            rw [show (zs ++ [(p, q)]).set zs.length (p, z) = zs ++ [(p, z)] by simp] at hset
            have HF7 := Lib.hid (HA4.out.store (zs.length * 2 + 1) (.int .i64 z) hset (by simp))
            have HR7 := Lib.hid (HR4.out.trans (Rnd.row HA4.out.row (by decide) (HA4.out.row.stored (zs.length * 2 + 1) (.int .i64 z)).2))
            clear hset HA4 HC4 HR4
            gi_wp2_with fail
            refine ⟨HR7.out.1.from _, HR7.out.2, EY, nv, _, _, HF7.out, ?_, ?_⟩
            · show AwAt _ _ _ _ _ _ _
              rw [HEO.out]
              exact HN.out
            · have := HOL.out
              simp only [List.length_append, List.length_singleton] at this ⊢
              omega
          · have hqb : (q == y - 1) = false := by simpa using hq
            have HN := Lib.hid (HT1.out (fun s h => by
              rcases List.mem_append.1 h with h | h
              · have h1 := hAw.out.apart
                unfold Apart at h1
                rw [List.pairwise_append] at h1
                have h2 := h1.2.2 s h (p, q) (by simp)
                have h3 := hAw.out.val (p, q) (by simp)
                have h4 := hAw.out.before (p, q) (by simp)
                rw [← G1.out] at h4
                simp only at h2 h3 h4
                omega
              · simp at h
                subst h
                exact hq))
            have hqd : decide (q = y - 1) = false := by simpa using hq
            clear HT1
            gi_wp2_with fail
            rw [hlen1] at HA3
            refine wpIn_region_quiet_calm (by kernel_rfl) (by kernel_rfl) (by kernel_rfl) (by rintro ⟨_, _, h⟩; exact h) ?_
            apply Shut.out
            repeat (refine wpQuiet_step_h (fun K hK => ?_); go_simp; refine hK _ ?_; clear hK K)
            refine Shut.mk (wpQuiet_nil ?_)
            intro _ hw'
            obtain ⟨nq, hw''⟩ := hw'
            subst hw''
            obtain ⟨W4, hW4⟩ : ∃ W4, W4 = W3.drewN nq := ⟨_, rfl⟩
            rw [← hW4]
            have hb4 : Below W3.heap.size W3 W4 := by rw [hW4]; exact below_drewN (Below.refl _ _) nq
            have hA4 := HA3.out.below hb4
            have HA4 := Lib.hid hA4
            have HR4 := Lib.hid (HRB.out.trans (Rnd.below hb4))
            have HC4 := Lib.hid ((hb4.block sb (Array.getElem?_eq_some_iff.1 HC3.out).1).trans HC3.out)
            have k10 := hA4.b10.cell
            have kf := hA4.b10.frozen
            have s0 : W4.cell? ⟨sb, 0, none⟩ = some (.int .i64 y) := by simp [World.cell?, HC4.out]
            have s1 : W4.cell? ⟨sb, 1, none⟩ = some (.int .i64 z) := by simp [World.cell?, HC4.out]
            clear hW4 hb4 hA4 HA3 HC3 HRB
            have HROW : Hid (W4.ownsRow w.heap.size 44 2 (.slice (some ⟨g, 0, none⟩) (zs.length + 1) cv) (zs.length + 1) (spCells (zs ++ [(p, q)]))) := by
              have h := HA4.out.row
              rw [hlen1] at h
              exact h
            have HLX : Hid (∀ X : World, Rd (X.alloc (.cells (litSp (y, z)) 44)) (.slice (some ⟨X.heap.size, 0, none⟩) 1 1) 2 1 (spRow (y, z))) := fun X => Rd.lit X (litSp (y, z)) 44 2 1 rfl (by unfold maxLen; omega)
            gi_wp2_with (gi_at_builtin; go_must (refine wpListIn_append_rd rfl _ _ 33 rfl w.heap.size 44 _ 2 16 Try.underlying33 infoSp rfl (by decide) (.slice (some ⟨g, 0, none⟩) (zs.length + 1) cv) (zs.length + 1) (spCells (zs ++ [(p, q)])) rfl (owns_below HROW.out ((Below.refl _ _).alloc (Nat.le_refl _) _)) _ 1 (spRow (y, z)) rfl (HLX.out _) (spCells_one [(y, z)]) ?gap1 ?gap2 ?gap3 ?_))
            case gap1 => unfold maxLen; omega
            case gap2 => omega
            case gap3 => simp; have := HA4.out.lt; omega
            intro v7 w7 hv7 hg7
            have hgA : W4.grownBy (W4.alloc (.cells (litSp (y, z)) 44)) none := World.grownBy_alloc W4 _ none
            have hA5 := HA4.out.grown hgA
            have hO7 : w7.ownsRow w.heap.size 44 2 v7 ((zs ++ [(p, q)]) ++ [(y, z)]).length (spCells ((zs ++ [(p, q)]) ++ [(y, z)])) := by
              rw [spCells_append, spCells_single, List.length_append, List.length_singleton, hlen1]
              exact hv7
            have HF7 := Lib.hid (hA5.append hO7 hg7)
            have k7 := hA5.b10.kept hg7 (hA5.b10.not_row (by decide) hA5.row)
            have HR7 : Hid (Rnd w1.heap.size W (w7.setCell ⟨w1.heap.size + 1 + 1, 0, none⟩ v7)) :=
              ((HR4.out.trans (Rnd.grown hgA)).trans (Rnd.row hA5.row (by decide) hg7)).trans (Rnd.cell k7 (.inr (by decide)) 0 _)
            obtain ⟨va, vc, rfl, -, -⟩ := owns_slice hO7
            have e9 := k7.cell
            have e10 := k7.frozen
            clear HROW hv7 hg7 hgA hA5 hO7 k7 HA4 HC4 HR4 k10 kf s0 s1 HLX
            rw [show (zs ++ [(p, q)] ++ [(y, z)]).length = zs.length + 2 by simp] at HR7 HF7
            gi_wp2_with fail
            refine ⟨HR7.out.1.from _, HR7.out.2, EY, nv, _, _, HF7.out, ?_, ?_⟩
            · show AwAt _ _ _ _ _ _ _
              rw [HEO.out]
              exact HN.out
            · have := HOL.out
              simp only [List.length_append, List.length_singleton] at this ⊢
              omega
  case done =>
    rintro D xs W hD hS ⟨least, nv, vo, out, hA, hAw, hle⟩ hK
    have hend := hS.end hs
    have HALW : Hid (Alw l cs sent out nv) := by
      show Alw _ _ _ _ _
      have h := hAw.out
      rw [hend] at h
      exact h.done
    have e9 := hA.b9.cell
    have e10 := hA.b10.cell
    have HVO := Lib.hid (IsSps.of_owns hA.row)
    have HB := Lib.hid hA.bel
    have HK := Lib.hid hK
    have hDw : w.heap.size ≤ D := by omega
    have hDW := (Array.getElem?_eq_some_iff.1 hK).1
    have hrl : ∀ k, vo.ownBlock = some k → k ≠ D := fun k e h => by
      have h1 := (hA.row.lt k e).1
      rcases hA.row.2 with ⟨h2, -⟩ | ⟨g, cap, cu, h2, hb, hgg, -⟩
      · rw [h2] at e; cases e
      · rw [h2] at e
        simp only [Value.ownBlock, Option.some.injEq] at e
        subst e
        rw [h, hK] at hgg
        cases hgg
    have HRL := Lib.hid hrl
    clear hS hA hAw hle hK hend hrl
    gi_wp2_with fail
    gi_quiet_th (fail)
    gi_wp2_with fail
    refine ⟨by simp, .inl ⟨_, _, rfl, run_takeDeferred (show (W.drewN nq).heap[D]? = _ from HK.out), ?_⟩⟩
    refine ⟨_, results_tmp2 rfl _ _ _, vo, nv, rfl, out, HALW, ?_, ?_⟩
    · refine Rd.same HVO.out (fun k hk e => ?_)
      rw [World.putObj_heap_other (HRL.out k e)]
      rfl
    · exact (below_drewN HB.out nq).trans ⟨rfl, rfl, rfl, by simp [World.putObj], fun k hk => World.putObj_heap_other (by omega)⟩

end Go.Proofs.Ytbiedadgejgnoaa
