/-
  The law ForkChecks: the reference's Check; the law's walk.
-/
import Derived.Test.YtgfnelpfoegdaaaFWf
import Derived.Test.YtgfnelpfoegdaaaFWi
namespace Go.Proofs.Ytgfnelpfoegdaaa
open Go.RowKit

set_option maxRecDepth 100000 in
theorem refCheck (l : List Br) (v : Value) (w : World) (hl : IsBrs w v l) (hlen : l.length ≤ 1000) (hown : ∀ x ∈ l, x.own.length ≤ 900000) :
    Calls Try.prog 13 #[v] w fun e w' => e = .returned (.int .i64 (checkF l)) ∧ Below w.heap.size w w' := by
  have HL := Lib.hid hl
  obtain ⟨ad, cap0, hv, hl63, -, -⟩ := hl.open
  subst hv
  unfold maxLen at hl63
  have HOW := Lib.hid hown
  clear hl hown
  by_cases hbig : 256 < l.length
  · have hr : checkF l = 2 := if_pos hbig
    rw [hr]
    have hb' : (256 : Int) < (l.length : Int) := by omega
    clear hbig hr hlen
    go_enter Try.func13, Try.ntmps13
    go_wp2_with fail
    go_ret
    exact ⟨rfl, Below.refl _ _⟩
  · have hb' : ¬ (256 : Int) < (l.length : Int) := by omega
    have HLB := Lib.hid (show l.length ≤ 256 by omega)
    obtain ⟨R, hR⟩ : ∃ R, checkF l = R := ⟨_, rfl⟩
    rw [hR]
    have HR := Lib.hid hR
    clear hbig hR
    have HLN := Lib.hid hlen
    clear hlen
    go_enter Try.func13, Try.ntmps13
    go_wp2_with fail
    go_loopw [3] (fun c wr => ∃ j : Nat, c = .int .i64 j ∧ j ≤ l.length ∧ w.heap.size ≤ wr.heap.size ∧ Hid (Below w.heap.size w wr) ∧ Hid (OkTo l j)) (fun c _ => l.length - (intOf c).toNat)
    case atStart => exact ⟨0, rfl, Nat.zero_le _, Nat.le_refl _, Below.refl _ _, fun i x hi => absurd hi (Nat.not_lt_zero _)⟩
    case round =>
      obtain ⟨j, rfl, hj, hsz, HB, HO⟩ := hrel
      by_cases hjl : j < l.length
      · have hx := List.getElem?_eq_getElem hjl
        have HX := Lib.hid hx
        have HC := Lib.hid (refWrong l _ j _ wr (HL.out.below HB.out) hx HLN.out HO.out (HOW.out _ (List.getElem_mem hjl)))
        clear hx
        by_cases hz : wrongF l j l[j] = 0
        · have HN : Hid (OkTo l (j + 1)) := HO.out.next HX.out hz
          rw [hz] at HC
          clear hz
          go_wp2_with (go_at_call 42; refine HC.out.mono ?_; rintro e w1 ⟨rfl, hb1⟩; have HB1 := Lib.hid (Below.to HB.out hb1 hsz); have hsz1 := HB1.out.size; clear hb1)
          go_roundw
          case rel => exact ⟨j + 1, by go_num, by omega, hsz1, HB1, HN⟩
          case measure => simp [intOf]; omega
        · have hz' : (wrongF l j l[j] != 0) = true := by simpa using hz
          have HE : Hid (R = wrongF l j l[j]) := HR.out.symm.trans (checkF_err HLB.out HO.out HX.out hz)
          clear hz
          go_wp2_with (go_at_call 42; refine HC.out.mono ?_; rintro e w1 ⟨rfl, hb1⟩; have HB1 := Lib.hid (Below.to HB.out hb1 hsz); clear hb1)
          go_ret
          exact ⟨by rw [HE.out]; rfl, HB1.out⟩
      · obtain rfl : j = l.length := by omega
        have HE : Hid (R = 0) := HR.out.symm.trans (checkF_ok ⟨HLB.out, HO.out⟩)
        go_wp2_with fail
        go_ret
        exact ⟨by rw [HE.out]; rfl, HB.out⟩

set_option maxHeartbeats 2000000 in
set_option maxRecDepth 100000 in
theorem forkChecks_any (l : List Br) (v : Value) (xs : List Int) (u : Value) (w : World) (hl : IsBrs w v l) (hx : IsInts w u xs) (hw : ∀ x ∈ xs, I64 x) :
    Calls Try.prog 3 #[v, u] w fun e w' => e = .returned (.bool true) ∧ Below w.heap.size w w' := by
  have HL := Lib.hid hl
  have HX := Lib.hid hx
  have HW := Lib.hid hw
  obtain ⟨ad, cap, rfl, hlm, -, hc⟩ := hl.open
  unfold maxLen at hlm
  have HC := Lib.hid hc
  clear hl hx hw hc
  by_cases hbig : 20 < l.length
  · have hb' : (20 : Int) < (l.length : Int) := by omega
    go_enter Try.func3, Try.ntmps3
    go_wp2_with fail
    refine (lives_any _).mono ?_
    rintro e w99 ⟨rfl, hb99⟩
    go_wp2_with fail
    go_ret
    exact ⟨rfl, hb99⟩
  · have hb' : ¬ (20 : Int) < (l.length : Int) := by omega
    have HLB := Lib.hid (show l.length ≤ 20 by omega)
    clear hbig
    go_enter Try.func3, Try.ntmps3
    go_wp2_with fail
    go_loopw [5] (fun c wr => ∃ j : Nat, c = .int .i64 j ∧ j ≤ l.length ∧ wr = w ∧ Hid (∀ i (h : i < l.length), i < j → l[i].own.length ≤ 20)) (fun c _ => l.length - (intOf c).toNat)
    case atStart => exact ⟨0, rfl, Nat.zero_le _, by first | rfl | trivial, fun i h hi => absurd hi (Nat.not_lt_zero _)⟩
    case round =>
      obtain ⟨j, rfl, hj, rfl, HO⟩ := hrel
      by_cases hjl : (j : Int) < (l.length : Int)
      · have hjn : j < l.length := by omega
        obtain ⟨bb, off, q, rfl, hq, -, -, -, c3, -⟩ := HC.out j hjn
        obtain ⟨qa, qc, rfl, hqm, -, -⟩ := hq.open
        unfold maxLen at hqm
        clear hq
        by_cases hq20 : l[j].own.length ≤ 20
        · have HN : Hid (∀ i (h : i < l.length), i < j + 1 → l[i].own.length ≤ 20) := fun i h hi => by
            by_cases e : i = j
            · subst e; exact hq20
            · exact HO.out i h (by omega)
          generalize l[j].own.length = n at *
          have hn20 : (n : Int) ≤ 20 := by omega
          go_wp2_with fail
          go_roundw
          case rel => exact ⟨j + 1, by go_num, by omega, by first | rfl | trivial, HN⟩
          case measure => simp [intOf]; omega
        · generalize l[j].own.length = n at *
          have hn20 : (20 : Int) < (n : Int) := by omega
          go_wp2_with fail
          refine (lives_any _).mono ?_
          rintro e w99 ⟨rfl, hb99⟩
          go_wp2_with fail
          go_ret
          exact ⟨rfl, hb99⟩
      · have hown : ∀ x ∈ l, x.own.length ≤ 20 := fun x hx => by
          obtain ⟨i, hi, rfl⟩ := List.getElem_of_mem hx
          exact HO.out i hi (by omega)
        have HOW1 : Hid (∀ x ∈ l, x.own.length ≤ 1000000) := fun x hx => by have := hown x hx; omega
        have HOW2 : Hid (∀ x ∈ l, x.own.length ≤ 900000) := fun x hx => by have := hown x hx; omega
        have HLN : Hid (l.length ≤ 1000) := by have := HLB.out; show _ ≤ _; omega
        clear hown
        generalize checkF l = R at *
        go_wp2_with fail
        refine (forkCheck l _ _ HL.out HLN.out HOW1.out).mono ?_
        rintro e w1 ⟨rfl, hb1⟩
        have HL1 := Lib.hid (HL.out.below hb1)
        have HX1 := Lib.hid (HX.out.below hb1)
        have HB1 := Lib.hid hb1
        clear hb1
        go_wp2_with fail
        refine (refCheck l _ _ HL1.out HLN.out HOW2.out).mono ?_
        rintro e w2 ⟨rfl, hb2⟩
        have HX2 := Lib.hid (HX1.out.below hb2)
        have HB2 := Lib.hid (Below.to HB1.out hb2 HB1.out.size)
        clear hb2
        go_wp2_with fail
        refine (branches_any xs _ _ HX2.out HW.out).mono ?_
        rintro e w3 ⟨v3, rfl, m, hl3, hg, hb3⟩
        have HV3 := Lib.hid hl3
        have HG := Lib.hid hg.1
        have HM : Hid (m.length ≤ 1000) := (by have := hg.1.1; show _ ≤ _; omega)
        have HB3 := Lib.hid (Below.to HB2.out hb3 HB2.out.size)
        clear hl3 hg hb3
        go_wp2_with fail
        refine (forkCheck m _ _ HV3.out HM.out HG.out.owns).mono ?_
        rintro e w4 ⟨rfl, hb4⟩
        rw [checkF_ok HG.out]
        have HB4 := Lib.hid (Below.to HB3.out hb4 HB3.out.size)
        clear hb4
        go_wp2_with fail
        refine (lives_any _).mono ?_
        rintro e w99 ⟨rfl, hb99⟩
        go_wp2_with fail
        go_ret
        exact ⟨rfl, Below.to HB4.out hb99 HB4.out.size⟩

end Go.Proofs.Ytgfnelpfoegdaaa
