/-
  Of: the program's and the reference's.
-/
import Derived.Test.YtdhiefgbajogcaaSvT
import Derived.Test.YtdhiefgbajogcaaRwP
import Derived.Test.YtdhiefgbajogcaaRtVG
namespace Go.Proofs.Ytdhiefgbajogcaa
open Go.RowKit

set_option maxHeartbeats 2000000 in
set_option maxRecDepth 100000 in
theorem svcOf (f : At → Int × Bool) (l : List At) (cs : List (Int × Int)) (v y : Value) (en pa : Int) (w : World) (hx : IsAts w v l) (hy : IsSps w y cs) (hl : l.length ≤ 1000) (hcl : cs.length ≤ 1000) (hok : AtsOk cs.length l) (hc : CarOk cs) (hf : ∀ a ∈ l, Svd a.own cs a.sent (f a)) :
    Calls Try.prog 24 #[v, .int .i64 en, .int .i64 pa, y] w fun e w' => e = .returned (.tuple #[.agg (svLit (ofF f cs en pa l)), .bool (ofF f cs en pa l).isSome]) ∧ Below w.heap.size w w' := by
  obtain ⟨B, hB⟩ : ∃ B, B = w.heap.size := ⟨_, rfl⟩
  have HX := Lib.hid hx
  have HY := Lib.hid hy
  have HOK := Lib.hid hok
  have HCO := Lib.hid hc
  have HF := Lib.hid hf
  obtain ⟨v0, vc, rfl, hlm, -, -⟩ := hx.open
  unfold maxLen at hlm
  obtain ⟨ya, yc, rfl, -, -, -⟩ := hy.open
  have HBB := Lib.hid hB
  have HBV : Hid (w.heap.size ≤ B) := by show _ ≤ _; omega
  have HI0 : Hid ((w.alloc (.cells #[.int .i64 0, .int .i64 0, .int .i64 0] 48)).heap[B]? = some (.cells #[.int .i64 0, .int .i64 0, .int .i64 0] 48)) := by show _ = _; rw [hB]; exact heap_alloc_new w _
  have HIB : Hid (Below w.heap.size w (w.alloc (.cells #[.int .i64 0, .int .i64 0, .int .i64 0] 48))) := (Below.refl _ _).alloc (Nat.le_refl _) _
  have HIS : Hid (B < (w.alloc (.cells #[.int .i64 0, .int .i64 0, .int .i64 0] 48)).heap.size) := by show _ < _; rw [hB]; simp
  clear hx hy hok hc hf hB
  go_enter Try.func24, Try.ntmps24
  go_wp2_with fail
  rw [← HBB.out]
  obtain ⟨W0, hW0⟩ : ∃ W0, W0 = w.alloc (.cells #[.int .i64 0, .int .i64 0, .int .i64 0] 48) := ⟨_, rfl⟩
  rw [← hW0] at HI0 HIB HIS
  rw [← hW0]
  clear hW0
  go_loopw [10, 17] (fun o i wr => ∃ (k : Nat) (vo : Value), vo = o ∧ i = .int .i64 k ∧ k ≤ l.length ∧ Hid (wr.ownsRow W0.heap.size 48 3 vo (candTo f cs en pa l k).length (svCells (candTo f cs en pa l k))) ∧ Hid (Below W0.heap.size W0 wr) ∧ Hid (Below w.heap.size w wr)) (fun _ i _ => l.length - (intOf i).toNat)
  case atStart => exact ⟨0, _, rfl, rfl, Nat.zero_le _, Lib.hid (World.ownsRow_nil _ _ _ _), Lib.hid (Below.refl _ _), HIB⟩
  case round =>
    obtain ⟨k, vo, rfl, rfl, hk, HOW, HBW, HBR⟩ := hrel
    have ek : IntKind.i64.wrap ((k : Int) + 1) = ((k + 1 : Nat) : Int) := by rw [IntKind.wrap_i64]; omega
    have hsW := HBW.out.size
    by_cases hkl : k < l.length
    · obtain ⟨_, _, e5, -, -, hcl'⟩ := (HX.out.below HBR.out).open
      obtain ⟨b5, o5, us, rfl, hus, d0, d1, d2, d3, d4⟩ := hcl' k hkl
      simp only [Value.slice.injEq, true_and] at e5
      obtain ⟨rfl, -⟩ := e5
      have HCT := Lib.hid (candTo_take (f := f) (cs := cs) (e := en) (p := pa) hkl)
      have hoa := HOK.out l[k] (List.getElem_mem hkl)
      have HRT := Lib.hid hoa.rets
      have hhd := hoa.head
      have HSV := Lib.hid (HF.out l[k] (List.getElem_mem hkl))
      obtain ⟨ua, uc, rfl⟩ := hus.sl
      have HUS := Lib.hid hus
      obtain ⟨⟨fd, fb⟩, hfa⟩ : ∃ r, f l[k] = r := ⟨_, rfl⟩
      rw [hfa] at HSV
      obtain ⟨s, hs⟩ : ∃ s, svOf f cs l[k] k = s := ⟨_, rfl⟩
      have hs' := hs
      unfold svOf at hs'
      rw [hs, hfa] at HCT
      rw [hfa] at hs'
      have hblt := World.block_lt_of_cell? _ _ d0
      clear hus hcl' hoa hfa hs
      generalize l[k] = a at *
      obtain ⟨ae, ap, ac, an, ow⟩ := a
      simp only at d0 d1 d2 d3 d4 hhd HRT HSV HUS hs'
      obtain ⟨-, -, ⟨hc0, hc1⟩, ⟨hn0, hn1⟩⟩ := hhd
      obtain ⟨c, rfl⟩ : ∃ c : Nat, ac = (c : Int) := ⟨ac.toNat, by omega⟩
      have hcc : c < cs.length := by omega
      have hcI : (c : Int) < (cs.length : Int) := by omega
      have hcN : ¬ (c : Int) < 0 := by omega
      have HMB : Hid (matB en pa ⟨ae, ap, (c : Int), an, ow⟩ = (decide (ae = en) && decide (ap = pa))) := by show _ = _; unfold matB; rfl
      have HAB : Hid (Below wr.heap.size wr (wr.alloc (.cells #[.int .i64 ae, .int .i64 ap, .int .i64 c, .int .i64 an, .slice ua ow.length uc] 29))) := (Below.refl _ _).alloc (Nat.le_refl _) _
      have HW1 := Lib.hid (Below.to HBW.out HAB.out hsW)
      have HR1 := Lib.hid (Below.to HBR.out HAB.out HBR.out.size)
      have HOW1 := Lib.hid (owns_below HOW.out HAB.out)
      have hkI : (k : Int) < (l.length : Int) := by omega
      by_cases hm1 : ae = en
      · by_cases hm2 : ap = pa
        · have HMT : Hid (matB en pa ⟨ae, ap, (c : Int), an, ow⟩ = true) := by show _ = _; rw [HMB.out]; simp [hm1, hm2]
          obtain ⟨b6, o6, q6, e6, hb6, x0, -⟩ := HY.out.at hcc
          simp only [Value.slice.injEq, true_and] at e6
          obtain ⟨rfl, -⟩ := e6
          have hs2 : s = ⟨fd, cs[c].1, (k : Int)⟩ := by
            rw [← hs']
            show Sv.mk fd _ _ = _
            rw [show ((c : Int)).toNat = c from by omega, List.getD_eq_getElem?_getD, List.getElem?_eq_getElem hcc]
            rfl
          have hA9 : (wr.alloc (.cells #[.int .i64 ae, .int .i64 ap, .int .i64 c, .int .i64 an, .slice ua ow.length uc] 29)).heap[wr.heap.size]? = some (.cells #[.int .i64 ae, .int .i64 ap, .int .i64 c, .int .i64 an, .slice ua ow.length uc] 29) := heap_alloc_new wr _
          have HA9 := Lib.hid hA9
          have HX0 := Lib.hid x0
          have HB6 : Hid (b6 < w.heap.size) := hb6
          clear hs' HMB x0 hA9 hb6
          have hm1' := hm1.symm
          have hm2' := hm2.symm
          clear hm1 hm2
          subst hm1'
          subst hm2'
          go_wp2_with fail
          refine (served_any ow cs _ _ an _ (HUS.out.below HAB.out) (HY.out.below HR1.out) HRT.out.2 (by omega) HRT.out.1 HCO.out hn0 hn1).mono ?_
          rintro e w3 ⟨xd, xb, rfl, out, nv, HAL, HSF, hb3⟩
          have hfx := Svd.eq (⟨out, nv, HAL.out, HSF.out⟩ : Svd ow cs an (xd, xb)) HSV.out (fun _ _ => rfl)
          obtain ⟨rfl, rfl⟩ : xd = fd ∧ xb = fb := by injection hfx with h1 h2; exact ⟨h1, h2⟩
          have hA3 := (hb3.block wr.heap.size (by simp)).trans HA9.out
          obtain ⟨⟨-, -, p2, -, -⟩, -⟩ := five_of hA3
          have HW3 := Lib.hid (Below.to HW1.out hb3 HW1.out.size)
          have HR3 := Lib.hid (Below.to HR1.out hb3 HR1.out.size)
          have HOW3 := Lib.hid (owns_below HOW1.out hb3)
          have hx3 := (HR3.out.cell (p := ⟨b6, o6 + c * 2, none⟩) HB6.out).trans HX0.out
          have hsW3 := HW3.out.size
          clear hb3 hA3 hfx HAL HSF HSV
          cases xb with
          | false =>
            have HC2 : Hid (candTo f cs en pa l (k + 1) = candTo f cs en pa l k) := by
              show _ = _
              rw [HCT.out, if_neg]
              rintro ⟨-, h⟩
              cases h
            have HOW4 : Hid (w3.ownsRow W0.heap.size 48 3 vo (candTo f cs en pa l (k + 1)).length (svCells (candTo f cs en pa l (k + 1)))) := by show World.ownsRow _ _ _ _ _ _ _; rw [HC2.out]; exact HOW3.out
            clear HCT HMT HC2 hx3 p2
            go_wp2_with fail
            go_roundw
            case rel => exact ⟨k + 1, _, rfl, by go_num, by omega, HOW4, HW3, HR3⟩
            case measure => simp [intOf]; omega
          | true =>
            have HC2 : Hid (candTo f cs en pa l (k + 1) = candTo f cs en pa l k ++ [⟨xd, cs[c].1, (k : Int)⟩]) := by
              show _ = _
              rw [HCT.out, if_pos ⟨HMT.out, rfl⟩, hs2]
            have hcb := candTo_len f cs en pa l k
            obtain ⟨CT, hCT⟩ : ∃ CT, candTo f cs en pa l k = CT := ⟨_, rfl⟩
            rw [hCT] at HC2 HOW3 hcb
            obtain ⟨X, hX⟩ : ∃ X, cs[c].1 = X := ⟨_, rfl⟩
            rw [hX] at HC2 hx3
            have HLX : Hid (∀ W : World, Rd (W.alloc (.cells #[.int .i64 xd, .int .i64 X, .int .i64 (k : Int)] 48)) (.slice (some ⟨W.heap.size, 0, none⟩) 1 1) 3 1 (svRow ⟨xd, X, (k : Int)⟩)) := fun W => Rd.lit W #[.int .i64 xd, .int .i64 X, .int .i64 (k : Int)] 48 3 1 rfl (by unfold maxLen; omega)
            obtain ⟨a9, c9, rfl, -, -⟩ := owns_slice HOW3.out
            clear HCT HMT hs2 hCT hX HX0 HOW1 HOW
            go_wp2_with (at_builtin; go_must (refine wpList_append_rd rfl _ _ 82 rfl W0.heap.size 48 _ 3 24 Try.underlying82 infoSv rfl (by decide) (.slice a9 CT.length c9) CT.length (svCells CT) rfl (owns_below HOW3.out ?b0) _ 1 (svRow ⟨xd, X, (k : Int)⟩) rfl (HLX.out _) (by intro u hu; simp [svRow] at hu; rcases hu with rfl | rfl | rfl <;> rfl) ?b1 ?b2 ?b3 ?_))
            case b0 => exact (Below.refl _ _).alloc (Nat.le_refl _) _
            case b1 => unfold maxLen; omega
            case b2 => omega
            case b3 => simp; omega
            intro v7 w7 hv7 hg7
            have hbw7 := below_append (Below.to HW3.out ((Below.refl _ _).alloc (Nat.le_refl _) _) hsW3) (owns_below HOW3.out ((Below.refl _ _).alloc (Nat.le_refl _) _)) hg7 (by simp; omega)
            have HW7 := Lib.hid hbw7
            have HR7 : Hid (Below w.heap.size w w7) := Below.to HIB.out hbw7 HIB.out.size
            have HOW7 : Hid (w7.ownsRow W0.heap.size 48 3 v7 (candTo f cs en pa l (k + 1)).length (svCells (candTo f cs en pa l (k + 1)))) := by
              show World.ownsRow _ _ _ _ _ _ _
              rw [HC2.out, svCells_snoc, List.length_append, List.length_singleton]
              exact hv7
            clear hv7 hg7 hbw7 HC2 HOW3 hx3 p2
            go_wp2_with fail
            go_roundw
            case rel => exact ⟨k + 1, _, rfl, by go_num, by omega, HOW7, HW7, HR7⟩
            case measure => simp [intOf]; omega
        · have hb2 : (ap == pa) = false := by simpa using hm2
          have HOWF : Hid (candTo f cs en pa l (k + 1) = candTo f cs en pa l k → (wr.alloc (.cells #[.int .i64 ae, .int .i64 ap, .int .i64 c, .int .i64 an, .slice ua ow.length uc] 29)).ownsRow W0.heap.size 48 3 vo (candTo f cs en pa l (k + 1)).length (svCells (candTo f cs en pa l (k + 1)))) := fun h => by rw [h]; exact HOW1.out
          have HC2 : Hid (candTo f cs en pa l (k + 1) = candTo f cs en pa l k) := by
            show _ = _
            rw [HCT.out, if_neg]
            rintro ⟨h, -⟩
            rw [HMB.out] at h
            simp [hm2] at h
          clear HCT HMB hm2 hs'
          have hm1' := hm1.symm
          clear hm1
          subst hm1'
          skip
          go_wp2_with fail
          go_roundw
          case rel => exact ⟨k + 1, _, rfl, by go_num, by omega, Lib.hid (HOWF.out HC2.out), HW1, HR1⟩
          case measure => simp [intOf]; omega
      · have hb1 : (ae == en) = false := by simpa using hm1
        have HOWF : Hid (candTo f cs en pa l (k + 1) = candTo f cs en pa l k → (wr.alloc (.cells #[.int .i64 ae, .int .i64 ap, .int .i64 c, .int .i64 an, .slice ua ow.length uc] 29)).ownsRow W0.heap.size 48 3 vo (candTo f cs en pa l (k + 1)).length (svCells (candTo f cs en pa l (k + 1)))) := fun h => by rw [h]; exact HOW1.out
        have HC2 : Hid (candTo f cs en pa l (k + 1) = candTo f cs en pa l k) := by
          show _ = _
          rw [HCT.out, if_neg]
          rintro ⟨h, -⟩
          rw [HMB.out] at h
          simp [hm1] at h
        clear HCT HMB hm1 hs'
        go_wp2_with fail
        go_roundw
        case rel => exact ⟨k + 1, _, rfl, by go_num, by omega, Lib.hid (HOWF.out HC2.out), HW1, HR1⟩
        case measure => simp [intOf]; omega
    · obtain rfl : k = l.length := by omega
      have HVS : Hid (IsSvs wr vo (candTo f cs en pa l l.length)) := Rd.of_owns HOW.out
      have HBA := Lib.hid (best_any _ vo wr HVS.out (by have := candTo_len f cs en pa l l.length; omega))
      have hB0 : wr.heap[B]? = some (.cells #[.int .i64 0, .int .i64 0, .int .i64 0] 48) := (HBW.out.block B HIS.out).trans HI0.out
      have HB0 := Lib.hid hB0
      have HOF : Hid (bestL (candTo f cs en pa l l.length) = ofF f cs en pa l) := rfl
      rw [HOF.out] at HBA
      obtain ⟨a9, c9, rfl, -, -⟩ := owns_slice HOW.out
      have HSB : Hid (B < wr.heap.size) := Nat.lt_of_lt_of_le HIS.out hsW
      obtain ⟨o, ho⟩ : ∃ o, ofF f cs en pa l = o := ⟨_, rfl⟩
      rw [ho] at HBA
      have HO := Lib.hid ho
      clear hB0 HOW ho HVS
      go_wp2_with fail
      refine HBA.out.mono ?_
      rintro e w5 ⟨rfl, hb5⟩
      have hB5 := (hb5.block B HSB.out).trans HB0.out
      have HR5 := Lib.hid (Below.to HBR.out hb5 HBR.out.size)
      clear hb5
      cases o with
      | none =>
        have hp := put3 hB5 (.int .i64 0) (.int .i64 0) (.int .i64 0)
        obtain ⟨q0, hq0⟩ := hp.c0
        obtain ⟨q1, hq1⟩ := hp.c1
        obtain ⟨q2, hq2⟩ := hp.c2
        have hf0 := hp.f0
        have hf1 := hp.f1
        have hf2 := hp.f2
        have HPH := Lib.hid hp.h
        have HB4 := Lib.hid (((HR5.out.setCell (p := ⟨B, 0, none⟩) HBV.out (.int .i64 0)).setCell (p := ⟨B, 1, none⟩) HBV.out (.int .i64 0)).setCell (p := ⟨B, 2, none⟩) HBV.out (.int .i64 0))
        clear hp hB5
        simp only [svLit]
        go_wp2_with fail
        try simp only [Exit.inBlock, Exit.then]
        refine bodyPost_ret (results_ct rfl _ _ B 48 _ _ _ rfl HPH.out Try.underlying48 rfl (by kernel_rfl)) rfl ?_
        refine ⟨?_, HB4.out⟩
        rw [HO.out]
        rfl
      | some sv =>
        have hp := put3 hB5 (.int .i64 sv.day) (.int .i64 sv.ext) (.int .i64 sv.att)
        obtain ⟨q0, hq0⟩ := hp.c0
        obtain ⟨q1, hq1⟩ := hp.c1
        obtain ⟨q2, hq2⟩ := hp.c2
        have hf0 := hp.f0
        have hf1 := hp.f1
        have hf2 := hp.f2
        have HPH := Lib.hid hp.h
        have HB4 := Lib.hid (((HR5.out.setCell (p := ⟨B, 0, none⟩) HBV.out (.int .i64 sv.day)).setCell (p := ⟨B, 1, none⟩) HBV.out (.int .i64 sv.ext)).setCell (p := ⟨B, 2, none⟩) HBV.out (.int .i64 sv.att))
        clear hp hB5
        simp only [svLit]
        go_wp2_with fail
        try simp only [Exit.inBlock, Exit.then]
        refine bodyPost_ret (results_ct rfl _ _ B 48 _ _ _ rfl HPH.out Try.underlying48 rfl (by kernel_rfl)) rfl ?_
        refine ⟨?_, HB4.out⟩
        rw [HO.out]
        rfl

set_option maxHeartbeats 2000000 in
set_option maxRecDepth 100000 in
theorem refOf (f : At → Int × Bool) (l : List At) (cs : List (Int × Int)) (v y : Value) (en pa : Int) (w : World) (hx : IsAts w v l) (hy : IsSps w y cs) (hl : l.length ≤ 1000) (hcl : cs.length ≤ 1000) (hok : AtsOk cs.length l) (hc : CarOk cs) (hf : ∀ a ∈ l, Svd a.own cs a.sent (f a)) :
    Calls Try.prog 25 #[v, .int .i64 en, .int .i64 pa, y] w fun e w' => e = .returned (.tuple #[.agg (svLit (ofF f cs en pa l)), .bool (ofF f cs en pa l).isSome]) ∧ Below w.heap.size w w' := by
  obtain ⟨B, hB⟩ : ∃ B, B = w.heap.size := ⟨_, rfl⟩
  have HX := Lib.hid hx
  have HY := Lib.hid hy
  have HOK := Lib.hid hok
  have HCO := Lib.hid hc
  have HF := Lib.hid hf
  obtain ⟨v0, vc, rfl, hlm, -, -⟩ := hx.open
  unfold maxLen at hlm
  obtain ⟨ya, yc, rfl, -, -, -⟩ := hy.open
  have HBB := Lib.hid hB
  have HBV : Hid (w.heap.size ≤ B) := by show _ ≤ _; omega
  have HBW : Hid (w.heap.size ≤ B + 1) := by show _ ≤ _; omega
  obtain ⟨W0, hW0⟩ : ∃ W0, W0 = (w.alloc (.cells #[.int .i64 0, .int .i64 0, .int .i64 0] 48)).alloc (.cells #[.int .i64 0, .int .i64 0, .int .i64 0] 48) := ⟨_, rfl⟩
  have HI0 : Hid (W0.heap[B]? = some (.cells #[.int .i64 0, .int .i64 0, .int .i64 0] 48)) := by show _ = _; rw [hW0, hB]; exact (Below.heap_alloc _ _ _ (by simp)).trans (heap_alloc_new w _)
  have HI1 : Hid (W0.heap[B + 1]? = some (.cells (svLit none) 48)) := by
    show _ = _
    have h := heap_alloc_new (w.alloc (.cells #[.int .i64 0, .int .i64 0, .int .i64 0] 48)) (.cells #[.int .i64 0, .int .i64 0, .int .i64 0] 48)
    rw [World.size_alloc] at h
    rw [hW0, hB]
    exact h
  have HIB : Hid (Below w.heap.size w W0) := by show Below _ _ _; rw [hW0]; exact ((Below.refl _ _).alloc (Nat.le_refl _) _).alloc (by simp) _
  have HIS : Hid (B + 1 < W0.heap.size) := by show _ < _; rw [hW0, hB]; simp
  have HWE := Lib.hid hW0
  clear hx hy hok hc hf hB hW0
  go_enter Try.func25, Try.ntmps25
  go_wp2_with fail
  rw [← HWE.out, ← HBB.out]
  go_loopw [11, 12] (fun fo i wr => ∃ (k : Nat) (o : Option Sv), fo = .bool o.isSome ∧ i = .int .i64 k ∧ k ≤ l.length ∧ Hid (bestL (candTo f cs en pa l k) = o) ∧ Hid (wr.heap[B]? = some (.cells #[.int .i64 0, .int .i64 0, .int .i64 0] 48)) ∧ Hid (wr.heap[B + 1]? = some (.cells (svLit o) 48)) ∧ Hid (B + 1 < wr.heap.size) ∧ Hid (Below w.heap.size w wr)) (fun _ i _ => l.length - (intOf i).toNat)
  case atStart => exact ⟨0, none, rfl, rfl, Nat.zero_le _, Lib.hid rfl, HI0, HI1, HIS, HIB⟩
  case round =>
    obtain ⟨k, o, rfl, rfl, hk, HBE, HC0, HC1, HSW, HBR⟩ := hrel
    have ek : IntKind.i64.wrap ((k : Int) + 1) = ((k + 1 : Nat) : Int) := by rw [IntKind.wrap_i64]; omega
    by_cases hkl : k < l.length
    · obtain ⟨_, _, e5, -, -, hcl'⟩ := (HX.out.below HBR.out).open
      obtain ⟨b5, o5, us, rfl, hus, d0, d1, d2, d3, d4⟩ := hcl' k hkl
      simp only [Value.slice.injEq, true_and] at e5
      obtain ⟨rfl, -⟩ := e5
      have HCT := Lib.hid (candTo_take (f := f) (cs := cs) (e := en) (p := pa) hkl)
      have hoa := HOK.out l[k] (List.getElem_mem hkl)
      have HRT := Lib.hid hoa.rets
      have hhd := hoa.head
      have HSV := Lib.hid (HF.out l[k] (List.getElem_mem hkl))
      obtain ⟨ua, uc, rfl⟩ := hus.sl
      have HUS := Lib.hid hus
      obtain ⟨⟨fd, fb⟩, hfa⟩ : ∃ r, f l[k] = r := ⟨_, rfl⟩
      rw [hfa] at HSV
      obtain ⟨s, hs⟩ : ∃ s, svOf f cs l[k] k = s := ⟨_, rfl⟩
      have hs' := hs
      unfold svOf at hs'
      rw [hs, hfa] at HCT
      rw [hfa] at hs'
      have hblt := World.block_lt_of_cell? _ _ d0
      clear hus hcl' hoa hfa hs
      generalize l[k] = a at *
      obtain ⟨ae, ap, ac, an, ow⟩ := a
      simp only at d0 d1 d2 d3 d4 hhd HRT HSV HUS hs'
      obtain ⟨-, -, ⟨hc0, hc1⟩, ⟨hn0, hn1⟩⟩ := hhd
      obtain ⟨c, rfl⟩ : ∃ c : Nat, ac = (c : Int) := ⟨ac.toNat, by omega⟩
      have hcc : c < cs.length := by omega
      have hcI : (c : Int) < (cs.length : Int) := by omega
      have hcN : ¬ (c : Int) < 0 := by omega
      have HMB : Hid (matB en pa ⟨ae, ap, (c : Int), an, ow⟩ = (decide (ae = en) && decide (ap = pa))) := by show _ = _; unfold matB; rfl
      have hkI : (k : Int) < (l.length : Int) := by omega
      by_cases hm1 : ae = en
      · by_cases hm2 : ap = pa
        · have HMT : Hid (matB en pa ⟨ae, ap, (c : Int), an, ow⟩ = true) := by show _ = _; rw [HMB.out]; simp [hm1, hm2]
          obtain ⟨b6, o6, q6, e6, hb6, x0, -⟩ := HY.out.at hcc
          simp only [Value.slice.injEq, true_and] at e6
          obtain ⟨rfl, -⟩ := e6
          obtain ⟨X, hX⟩ : ∃ X, cs[c].1 = X := ⟨_, rfl⟩
          have hs2 : s = ⟨fd, X, (k : Int)⟩ := by
            rw [← hs', ← hX]
            show Sv.mk fd _ _ = _
            rw [show ((c : Int)).toNat = c from by omega, List.getD_eq_getElem?_getD, List.getElem?_eq_getElem hcc]
            rfl
          rw [hX] at x0
          have HX0 := Lib.hid x0
          have HB6 : Hid (b6 < w.heap.size) := hb6
          have hm1' := hm1.symm
          have hm2' := hm2.symm
          have KD : Hid (wr.drew.cell? ⟨b5, o5 + k * 5 + 4, none⟩ = some (.slice ua ow.length uc) ∧ wr.drew.cell? ⟨b5, o5 + k * 5 + 3, none⟩ = some (.int .i64 an)) := ⟨d4, d3⟩
          have HLT : Hid (b5 < wr.heap.size) := hblt
          have HD2 : Hid (wr.cell? ⟨b5, o5 + k * 5 + 2, none⟩ = some (.int .i64 (c : Int))) := d2
          have HSD := Lib.hid (refServed_any ow cs _ _ an wr.drew (HUS.out.below ((Below.refl _ _).drew)) (HY.out.below HBR.out.drew) (by have := HRT.out.2; omega) (by omega) HRT.out.1 HCO.out hn0 hn1)
          clear hs' HMB x0 hb6 hm1 hm2 hX
          subst hm1'
          subst hm2'
          go_wp2_with fail
          go_region_held3 (fun w' => w'.cell? ⟨b5, o5 + k * 5 + 4, none⟩ = some (.slice ua ow.length uc) ∧ w'.cell? ⟨b5, o5 + k * 5 + 3, none⟩ = some (.int .i64 an))
            (first
              | exact KD.out
              | exact K3.out
              | go_keep)
            (first
              | (go_at_call 46
                 refine HSD.out.mono ?_
                 rintro e w3 ⟨xd, xb, rfl, out, nv, HAL, HSF, hb3⟩
                 have HB3 := Lib.hid hb3
                 have K3 : Hid (w3.cell? ⟨b5, o5 + k * 5 + 4, none⟩ = some (.slice ua ow.length uc) ∧ w3.cell? ⟨b5, o5 + k * 5 + 3, none⟩ = some (.int .i64 an)) := ⟨(hb3.cell (p := ⟨b5, o5 + k * 5 + 4, none⟩) HLT.out).trans KD.out.1, (hb3.cell (p := ⟨b5, o5 + k * 5 + 3, none⟩) HLT.out).trans KD.out.2⟩
                 clear hb3))
          have hfx := Svd.eq (⟨out, nv, HAL.out, HSF.out⟩ : Svd ow cs an (xd, xb)) HSV.out (fun _ _ => rfl)
          obtain ⟨rfl, rfl⟩ : xd = fd ∧ xb = fb := by injection hfx with h1 h2; exact ⟨h1, h2⟩
          have h31 : w3.heap[B + 1]? = some (.cells (svLit o) 48) := (HB3.out.block _ (by have := HSW.out; simp; omega)).trans HC1.out
          have H30 : Hid (w3.heap[B]? = some (.cells #[.int .i64 0, .int .i64 0, .int .i64 0] 48)) := (HB3.out.block _ (by have := HSW.out; simp; omega)).trans HC0.out
          have HR3 := Lib.hid (Below.to HBR.out.drew HB3.out HBR.out.drew.size)
          have HS3 : Hid (B + 1 < w3.heap.size) := Nat.lt_of_lt_of_le (by have := HSW.out; simp; omega) HB3.out.size
          have hx3 := (HR3.out.cell (p := ⟨b6, o6 + c * 2, none⟩) HB6.out).trans HX0.out
          have hd3 := (HB3.out.cell (p := ⟨b5, o5 + k * 5 + 2, none⟩) HLT.out).trans HD2.out
          clear K3 KD HSD hfx HAL HSF HSV HC0 HC1 d0 d1 d2 d3 d4 HB3 HUS HX0 HD2
          cases xb with
          | false =>
            have HC2 : Hid (bestL (candTo f cs en pa l (k + 1)) = o) := by
              show _ = _
              rw [HCT.out, if_neg, HBE.out]
              rintro ⟨-, h⟩
              cases h
            have H31 := Lib.hid h31
            clear HCT HMT h31 hx3 hd3
            go_wp2_with fail
            go_roundw
            case rel => exact ⟨k + 1, _, rfl, by go_num, by omega, HC2, H30, H31, HS3, HR3⟩
            case measure => simp [intOf]; omega
          | true =>
            have HCB : Hid (bestL (candTo f cs en pa l (k + 1)) = bstep o ⟨xd, X, (k : Int)⟩) := by
              show _ = _
              rw [HCT.out, if_pos ⟨HMT.out, rfl⟩, hs2, bestL_snoc, HBE.out]
            cases o with
            | none =>
              simp only [svLit] at h31
              have HBE2 : Hid (bestL (candTo f cs en pa l (k + 1)) = some ⟨xd, X, (k : Int)⟩) := HCB.out
              clear HCB HBE
              have hp := put3 h31 (.int .i64 xd) (.int .i64 X) (.int .i64 (k : Int))
              obtain ⟨q0, hq0⟩ := hp.c0
              obtain ⟨q1, hq1⟩ := hp.c1
              obtain ⟨q2, hq2⟩ := hp.c2
              have hf0 := hp.f0
              have hf1 := hp.f1
              have hf2 := hp.f2
              have HC1 : Hid ((((w3.setCell ⟨B + 1, 0, none⟩ (.int .i64 xd)).setCell ⟨B + 1, 1, none⟩ (.int .i64 X)).setCell ⟨B + 1, 2, none⟩ (.int .i64 (k : Int))).heap[B + 1]? = some (.cells (svLit (some ⟨xd, X, (k : Int)⟩)) 48)) := hp.h
              have HC0 : Hid ((((w3.setCell ⟨B + 1, 0, none⟩ (.int .i64 xd)).setCell ⟨B + 1, 1, none⟩ (.int .i64 X)).setCell ⟨B + 1, 2, none⟩ (.int .i64 (k : Int))).heap[B]? = some (.cells #[.int .i64 0, .int .i64 0, .int .i64 0] 48)) := (hp.o B (by omega)).trans H30.out
              have HB4 : Hid (Below w.heap.size w (((w3.setCell ⟨B + 1, 0, none⟩ (.int .i64 xd)).setCell ⟨B + 1, 1, none⟩ (.int .i64 X)).setCell ⟨B + 1, 2, none⟩ (.int .i64 (k : Int)))) := ((HR3.out.setCell (p := ⟨B + 1, 0, none⟩) HBW.out _).setCell (p := ⟨B + 1, 1, none⟩) HBW.out _).setCell (p := ⟨B + 1, 2, none⟩) HBW.out _
              have HS4 : Hid (B + 1 < (((w3.setCell ⟨B + 1, 0, none⟩ (.int .i64 xd)).setCell ⟨B + 1, 1, none⟩ (.int .i64 X)).setCell ⟨B + 1, 2, none⟩ (.int .i64 (k : Int))).heap.size) := by show _ < _; rw [hp.s]; exact HS3.out
              clear hp h31 HCT HMT hs2
              go_wp2_with fail
              go_roundw
              case rel => exact ⟨k + 1, some ⟨xd, X, (k : Int)⟩, rfl, by go_num, by omega, HBE2, HC0, HC1, HS4, HB4⟩
              case measure => simp [intOf]; omega
            | some sv =>
              obtain ⟨vd, ve, va⟩ := sv
              simp only [svLit] at h31
              obtain ⟨⟨t0, -, -⟩, -⟩ := three_of h31
              by_cases hlt : xd < vd
              · have hlt2 : xd < vd := hlt
                have HBE2 : Hid (bestL (candTo f cs en pa l (k + 1)) = some ⟨xd, X, (k : Int)⟩) := by show _ = _; rw [HCB.out]; exact if_pos hlt
                clear HCB HBE
                have hp := put3 h31 (.int .i64 xd) (.int .i64 X) (.int .i64 (k : Int))
                obtain ⟨q0, hq0⟩ := hp.c0
                obtain ⟨q1, hq1⟩ := hp.c1
                obtain ⟨q2, hq2⟩ := hp.c2
                have hf0 := hp.f0
                have hf1 := hp.f1
                have hf2 := hp.f2
                have HC1 : Hid ((((w3.setCell ⟨B + 1, 0, none⟩ (.int .i64 xd)).setCell ⟨B + 1, 1, none⟩ (.int .i64 X)).setCell ⟨B + 1, 2, none⟩ (.int .i64 (k : Int))).heap[B + 1]? = some (.cells (svLit (some ⟨xd, X, (k : Int)⟩)) 48)) := hp.h
                have HC0 : Hid ((((w3.setCell ⟨B + 1, 0, none⟩ (.int .i64 xd)).setCell ⟨B + 1, 1, none⟩ (.int .i64 X)).setCell ⟨B + 1, 2, none⟩ (.int .i64 (k : Int))).heap[B]? = some (.cells #[.int .i64 0, .int .i64 0, .int .i64 0] 48)) := (hp.o B (by omega)).trans H30.out
                have HB4 : Hid (Below w.heap.size w (((w3.setCell ⟨B + 1, 0, none⟩ (.int .i64 xd)).setCell ⟨B + 1, 1, none⟩ (.int .i64 X)).setCell ⟨B + 1, 2, none⟩ (.int .i64 (k : Int)))) := ((HR3.out.setCell (p := ⟨B + 1, 0, none⟩) HBW.out _).setCell (p := ⟨B + 1, 1, none⟩) HBW.out _).setCell (p := ⟨B + 1, 2, none⟩) HBW.out _
                have HS4 : Hid (B + 1 < (((w3.setCell ⟨B + 1, 0, none⟩ (.int .i64 xd)).setCell ⟨B + 1, 1, none⟩ (.int .i64 X)).setCell ⟨B + 1, 2, none⟩ (.int .i64 (k : Int))).heap.size) := by show _ < _; rw [hp.s]; exact HS3.out
                clear hp h31 HCT HMT hs2
                go_wp2_with fail
                go_roundw
                case rel => exact ⟨k + 1, some ⟨xd, X, (k : Int)⟩, rfl, by go_num, by omega, HBE2, HC0, HC1, HS4, HB4⟩
                case measure => simp [intOf]; omega
              · have HBE2 : Hid (bestL (candTo f cs en pa l (k + 1)) = some ⟨vd, ve, va⟩) := by show _ = _; rw [HCB.out]; exact if_neg hlt
                have H31 : Hid (w3.heap[B + 1]? = some (.cells (svLit (some ⟨vd, ve, va⟩)) 48)) := h31
                have hge : vd ≤ xd := by omega
                clear HCT HMT h31 hx3 hd3 HCB HBE hs2
                go_wp2_with fail
                go_roundw
                case rel => exact ⟨k + 1, _, rfl, by go_num, by omega, HBE2, H30, H31, HS3, HR3⟩
                case measure => simp [intOf]; omega
        · have hb2 : (ap == pa) = false := by simpa using hm2
          have HOWF : Hid (candTo f cs en pa l (k + 1) = candTo f cs en pa l k → bestL (candTo f cs en pa l (k + 1)) = o) := fun h => by rw [h]; exact HBE.out
          have HC2 : Hid (candTo f cs en pa l (k + 1) = candTo f cs en pa l k) := by
            show _ = _
            rw [HCT.out, if_neg]
            rintro ⟨h, -⟩
            rw [HMB.out] at h
            simp [hm2] at h
          clear HCT HMB hm2 hs'
          have hm1' := hm1.symm
          clear hm1
          subst hm1'
          go_wp2_with fail
          go_roundw
          case rel => exact ⟨k + 1, _, rfl, by go_num, by omega, Lib.hid (HOWF.out HC2.out), HC0, HC1, HSW, HBR⟩
          case measure => simp [intOf]; omega
      · have hb1 : (ae == en) = false := by simpa using hm1
        have HOWF : Hid (candTo f cs en pa l (k + 1) = candTo f cs en pa l k → bestL (candTo f cs en pa l (k + 1)) = o) := fun h => by rw [h]; exact HBE.out
        have HC2 : Hid (candTo f cs en pa l (k + 1) = candTo f cs en pa l k) := by
          show _ = _
          rw [HCT.out, if_neg]
          rintro ⟨h, -⟩
          rw [HMB.out] at h
          simp [hm1] at h
        clear HCT HMB hm1 hs'
        go_wp2_with fail
        go_roundw
        case rel => exact ⟨k + 1, _, rfl, by go_num, by omega, Lib.hid (HOWF.out HC2.out), HC0, HC1, HSW, HBR⟩
        case measure => simp [intOf]; omega
    · obtain rfl : k = l.length := by omega
      have HOF : Hid (ofF f cs en pa l = o) := HBE.out
      cases o with
      | none =>
        have h1 := HC1.out
        simp only [svLit] at h1
        obtain ⟨⟨t0, t1, t2⟩, -⟩ := three_of h1
        have hp := put3 HC0.out (.int .i64 0) (.int .i64 0) (.int .i64 0)
        obtain ⟨q0, hq0⟩ := hp.c0
        obtain ⟨q1, hq1⟩ := hp.c1
        obtain ⟨q2, hq2⟩ := hp.c2
        have hf0 := hp.f0
        have hf1 := hp.f1
        have hf2 := hp.f2
        have HPH := Lib.hid hp.h
        have HB4 := Lib.hid (((HBR.out.setCell (p := ⟨B, 0, none⟩) HBV.out (.int .i64 0)).setCell (p := ⟨B, 1, none⟩) HBV.out (.int .i64 0)).setCell (p := ⟨B, 2, none⟩) HBV.out (.int .i64 0))
        clear hp h1
        go_wp2_with fail
        try simp only [Exit.inBlock, Exit.then]
        refine bodyPost_ret (results_ct rfl _ _ B 48 _ _ _ rfl HPH.out Try.underlying48 rfl (by kernel_rfl)) rfl ?_
        refine ⟨?_, HB4.out⟩
        rw [HOF.out]
        rfl
      | some sv =>
        have h1 := HC1.out
        simp only [svLit] at h1
        obtain ⟨⟨t0, t1, t2⟩, -⟩ := three_of h1
        have hp := put3 HC0.out (.int .i64 sv.day) (.int .i64 sv.ext) (.int .i64 sv.att)
        obtain ⟨q0, hq0⟩ := hp.c0
        obtain ⟨q1, hq1⟩ := hp.c1
        obtain ⟨q2, hq2⟩ := hp.c2
        have hf0 := hp.f0
        have hf1 := hp.f1
        have hf2 := hp.f2
        have HPH := Lib.hid hp.h
        have HB4 := Lib.hid (((HBR.out.setCell (p := ⟨B, 0, none⟩) HBV.out (.int .i64 sv.day)).setCell (p := ⟨B, 1, none⟩) HBV.out (.int .i64 sv.ext)).setCell (p := ⟨B, 2, none⟩) HBV.out (.int .i64 sv.att))
        clear hp h1
        go_wp2_with fail
        try simp only [Exit.inBlock, Exit.then]
        refine bodyPost_ret (results_ct rfl _ _ B 48 _ _ _ rfl HPH.out Try.underlying48 rfl (by kernel_rfl)) rfl ?_
        refine ⟨?_, HB4.out⟩
        rw [HOF.out]
        rfl

end Go.Proofs.Ytdhiefgbajogcaa
