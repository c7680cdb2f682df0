/-
  Contract of Check, of the program.
-/
import Derived.Test.YtgfnelpfoegdaaaFWd
namespace Go.Proofs.Ytgfnelpfoegdaaa
open Go.RowKit

theorem checkFrom_err {l : List Br} {j : Nat} {x : Br} (hok : OkTo l j) (hx : l[j]? = some x) (hne : wrongF l j x ≠ 0) : ∀ (f b : Nat), b ≤ j → j < b + f → checkFrom l f b = wrongF l j x
  | 0, b, h1, h2 => by omega
  | f + 1, b, h1, h2 => by
    unfold checkFrom
    by_cases e : b = j
    · subst e
      rw [hx]
      simp only
      rw [if_neg hne]
    · have hb : b < l.length := by have := (List.getElem?_eq_some_iff.1 hx).1; omega
      rw [List.getElem?_eq_getElem hb]
      simp only
      rw [if_pos (wrongF_ok.2 (hok b _ (by omega) (List.getElem?_eq_getElem hb)))]
      exact checkFrom_err hok hx hne f (b + 1) (by omega) (by omega)

theorem checkF_err {l : List Br} {j : Nat} {x : Br} (hlen : l.length ≤ 256) (hok : OkTo l j) (hx : l[j]? = some x) (hne : wrongF l j x ≠ 0) : checkF l = wrongF l j x := by
  have := (List.getElem?_eq_some_iff.1 hx).1
  unfold checkF
  rw [if_neg (by omega), checkFrom_err hok hx hne _ _ (Nat.zero_le _) (by omega)]

theorem checkFrom_ok {l : List Br} (hok : OkTo l l.length) : ∀ (f b : Nat), checkFrom l f b = 0
  | 0, b => rfl
  | f + 1, b => by
    unfold checkFrom
    cases h : l[b]? with
    | none => rfl
    | some x =>
      simp only
      rw [if_pos (wrongF_ok.2 (hok b x (List.getElem?_eq_some_iff.1 h).1 h))]
      exact checkFrom_ok hok f (b + 1)

theorem checkF_ok {l : List Br} (h : Good l) : checkF l = 0 := by
  unfold checkF
  rw [if_neg (by have := h.1; omega)]
  exact checkFrom_ok h.2 _ _

theorem OkTo.next {l : List Br} {j : Nat} {x : Br} (h : OkTo l j) (hx : l[j]? = some x) (hw : wrongF l j x = 0) : OkTo l (j + 1) := fun i y hi hy => by
  by_cases e : i = j
  · subst e
    rw [hx] at hy
    cases hy
    exact wrongF_ok.1 hw
  · exact h i y (by omega) hy

set_option maxHeartbeats 1000000 in
set_option maxRecDepth 100000 in
theorem forkCheck (l : List Br) (v : Value) (w : World) (hl : IsBrs w v l) (hlen : l.length ≤ 1000) (hown : ∀ x ∈ l, x.own.length ≤ 1000000) :
    Calls Try.prog 12 #[v] w fun e w' => e = .returned (.int .i64 (checkF l)) ∧ Below w.heap.size w w' := by
  have HL := Lib.hid hl
  obtain ⟨ad, cap0, hv, hl63, -, -⟩ := hl.open
  subst hv
  unfold maxLen at hl63
  have HOW := Lib.hid hown
  clear hl hown
  by_cases hbig : 256 < l.length
  · have hr : checkF l = 2 := if_pos hbig
    rw [hr]
    have hb' : (256 : Int) < (l.length : Int) := by omega
    clear hbig hr hlen
    go_enter Try.func12, Try.ntmps12
    go_wp2_with fail
    go_ret
    exact ⟨rfl, Below.refl _ _⟩
  · have hb' : ¬ (256 : Int) < (l.length : Int) := by omega
    have HLB := Lib.hid (show l.length ≤ 256 by omega)
    obtain ⟨R, hR⟩ : ∃ R, checkF l = R := ⟨_, rfl⟩
    rw [hR]
    have HR := Lib.hid hR
    clear hbig hR
    have HLN := Lib.hid hlen
    clear hlen
    go_enter Try.func12, Try.ntmps12
    go_wp2_with fail
    go_loopw [3, 10] (fun _ c wr => ∃ j : Nat, c = .int .i64 j ∧ j ≤ l.length ∧ w.heap.size ≤ wr.heap.size ∧ Hid (Below w.heap.size w wr) ∧ Hid (OkTo l j)) (fun _ c _ => l.length - (intOf c).toNat)
    case atStart => exact ⟨0, rfl, Nat.zero_le _, Nat.le_refl _, Below.refl _ _, fun i x hi => absurd hi (Nat.not_lt_zero _)⟩
    case round =>
      obtain ⟨j, rfl, hj, hsz, HB, HO⟩ := hrel
      by_cases hjl : j < l.length
      · have hx := List.getElem?_eq_getElem hjl
        have HX := Lib.hid hx
        have HC := Lib.hid (forkCheck1 l _ j _ wr (HL.out.below HB.out) hx HLN.out HO.out (HOW.out _ (List.getElem_mem hjl)))
        clear hx
        by_cases hz : wrongF l j l[j] = 0
        · have HN : Hid (OkTo l (j + 1)) := HO.out.next HX.out hz
          rw [hz] at HC
          clear hz
          go_wp2_with (go_at_call 41; refine HC.out.mono ?_; rintro e w1 ⟨rfl, hb1⟩; have HB1 := Lib.hid (Below.to HB.out hb1 hsz); have hsz1 := HB1.out.size; clear hb1)
          go_roundw
          case rel => exact ⟨j + 1, by go_num, by omega, hsz1, HB1, HN⟩
          case measure => simp [intOf]; omega
        · have hz' : (wrongF l j l[j] != 0) = true := by simpa using hz
          have HE : Hid (R = wrongF l j l[j]) := HR.out.symm.trans (checkF_err HLB.out HO.out HX.out hz)
          clear hz
          go_wp2_with (go_at_call 41; refine HC.out.mono ?_; rintro e w1 ⟨rfl, hb1⟩; have HB1 := Lib.hid (Below.to HB.out hb1 hsz); clear hb1)
          go_ret
          exact ⟨by rw [HE.out]; rfl, HB1.out⟩
      · obtain rfl : j = l.length := by omega
        have HE : Hid (R = 0) := HR.out.symm.trans (checkF_ok ⟨HLB.out, HO.out⟩)
        go_wp2_with fail
        go_ret
        exact ⟨by rw [HE.out]; rfl, HB.out⟩

end Go.Proofs.Ytgfnelpfoegdaaa
