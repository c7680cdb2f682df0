/-
  Branches: the record made from numbers is valid, and its events are small numbers. (Printed by wip/tools/gen_fwm.py.)
-/
import Derived.Test.YtgfnelpfoegdaaaFWi
namespace Go.Proofs.Ytgfnelpfoegdaaa
open Go.RowKit

/-- Every own event is from 0 to 10^6. -/
def OwnIn (l : List Br) : Prop := ∀ x ∈ l, ∀ e ∈ x.own, 0 ≤ e ∧ e < 1000000
theorem OwnIn.nil : OwnIn [] := fun x h => by cases h
theorem OwnIn.push {l : List Br} {x : Br} (h : OwnIn l) (hx : x.own = []) : OwnIn (l ++ [x]) := fun y hy e he => by
  rcases List.mem_append.1 hy with h1 | h1
  · exact h y h1 e he
  · obtain rfl := List.mem_singleton.1 h1
    rw [hx] at he; cases he
theorem OwnIn.put {l : List Br} {x : Br} {k : Nat} (h : OwnIn l) (hx : ∀ e ∈ x.own, 0 ≤ e ∧ e < 1000000) : OwnIn (l.set k x) := fun y hy e he => by
  rcases List.mem_or_eq_of_mem_set hy with h1 | h1
  · exact h y h1 e he
  · subst h1; exact hx e he
theorem OwnIn.at {l : List Br} {x : Br} {k : Nat} (h : OwnIn l) (hx : l[k]? = some x) : ∀ e ∈ x.own, 0 ≤ e ∧ e < 1000000 := h x (List.mem_of_getElem? hx)
theorem rootF_own {l : List Br} {n : Int} (h : OwnIn l) : OwnIn (rootF l n).1 := by
  unfold rootF; split
  · split
    · exact OwnIn.nil
    · exact h.push rfl
  · exact OwnIn.nil
theorem forkF_own {l : List Br} {b n : Int} (h : OwnIn l) : OwnIn (forkF l b n).1 := by
  unfold forkF; split
  · exact OwnIn.nil
  · split
    · exact OwnIn.nil
    · split
      · exact OwnIn.nil
      · split
        · exact OwnIn.nil
        · split
          · exact OwnIn.nil
          · split
            · exact OwnIn.nil
            · exact h.push rfl
theorem addF_own {l : List Br} {b n : Int} (h : OwnIn l) (hn : 0 ≤ n ∧ n < 1000000) : OwnIn (addF l b n).1 := by
  unfold addF; split
  · exact OwnIn.nil
  · split
    · exact OwnIn.nil
    · rename_i x hx
      split
      · exact OwnIn.nil
      · split
        · exact OwnIn.nil
        · refine h.put fun e he => ?_
          rcases List.mem_append.1 he with h1 | h1
          · exact h.at hx e h1
          · obtain rfl := List.mem_singleton.1 h1; exact hn
theorem remandF_own {l : List Br} {b : Int} (h : OwnIn l) : OwnIn (remandF l b).1 := by
  unfold remandF; split
  · exact OwnIn.nil
  · split
    · exact OwnIn.nil
    · rename_i x hx
      split
      · exact OwnIn.nil
      · split
        · exact OwnIn.nil
        · split
          · exact OwnIn.nil
          · rename_i p hp
            split
            · exact OwnIn.nil
            · refine (h.put fun e he => ?_).put fun e he => h.at hx e he
              rcases List.mem_append.1 he with h1 | h1
              · exact h.at hp e h1
              · exact h.at hx e h1

/-- All events of a branch are small. -/
theorem events_own {l : List Br} (h : OwnIn l) : ∀ b : Nat, ∀ e ∈ events l b, 0 ≤ e ∧ e < 1000000 := by
  intro b
  induction b using Nat.strongRecOn with
  | ind b ih =>
    intro e he
    unfold events at he
    cases hx : l[b]? with
    | none => rw [hx] at he; simp at he
    | some x =>
      rw [hx] at he
      simp only at he
      rcases List.mem_append.1 he with h1 | h1
      · split at h1
        · exact ih _ (by omega) e (List.mem_of_mem_take h1)
        · cases h1
      · exact h.at hx e h1

/-- A valid record of small events. -/
def GoodK (_k : Nat) (l : List Br) : Prop := Good1 l ∧ OwnIn l

theorem GoodK.up {k : Nat} {l : List Br} (h : GoodK k l) : GoodK (k + 3) l := h
theorem rootK {k : Nat} {l : List Br} {n : Int} (h : GoodK k l) (hz : (rootF l n).2.2 = 0) : GoodK (k + 3) (rootF l n).1 := ⟨root1 h.1 hz, rootF_own h.2⟩
theorem forkK {k : Nat} {l : List Br} {b n : Int} (h : GoodK k l) (hz : (forkF l b n).2.2 = 0) : GoodK (k + 3) (forkF l b n).1 := ⟨fork1 h.1 hz, forkF_own h.2⟩
theorem addK {k : Nat} {l : List Br} {b n : Int} (h : GoodK k l) (hn : 0 ≤ n ∧ n < 1000000) (hz : (addF l b n).2 = 0) : GoodK (k + 3) (addF l b n).1 := ⟨add1 h.1 hz, addF_own h.2 hn⟩
theorem remandK {k : Nat} {l : List Br} {b : Int} (h : GoodK k l) (hz : (remandF l b).2 = 0) : GoodK (k + 3) (remandF l b).1 := ⟨remand1' h.1 hz, remandF_own h.2⟩

/-! What a walk of a law reads of a record. -/
/-- A branch of a record, as a walk reads it. -/
theorem IsBrs.at' {w : World} {v : Value} {l : List Br} (h : IsBrs w v l) {k : Nat} {x : Br} (hx : l[k]? = some x) :
    ∃ b off cap u, v = .slice (some ⟨b, off, none⟩) l.length cap ∧ IsInts w u x.own ∧ b < w.heap.size ∧
      w.cell? ⟨b, off + k * 5, none⟩ = some (.int .i64 x.parent) ∧ w.cell? ⟨b, off + k * 5 + 1, none⟩ = some (.int .i64 x.court) ∧
      w.cell? ⟨b, off + k * 5 + 2, none⟩ = some (.int .i64 x.at_) ∧ w.cell? ⟨b, off + k * 5 + 3, none⟩ = some u ∧ w.cell? ⟨b, off + k * 5 + 4, none⟩ = some (.bool x.opn) := by
  obtain ⟨hk, rfl⟩ := List.getElem?_eq_some_iff.1 hx
  obtain ⟨a, cap, rfl, -, -, hc⟩ := h.open
  obtain ⟨b, off, u, rfl, hu, c0, r⟩ := hc k hk
  exact ⟨b, off, cap, u, rfl, hu, World.block_lt_of_cell? _ _ c0, c0, r⟩
theorem around_nat' {n : Int} {m : Nat} (h : 1 ≤ m) : ∃ k : Nat, around n m = k ∧ k < m := by
  have h1 := around_lo n m (by omega)
  have h2 := around_hi n m (by omega)
  exact ⟨(around n m).toNat, by omega, by omega⟩
theorem eventsZ_le' {l : List Br} (hg : Good l) (b : Int) : (eventsZ l b).length ≤ 65536 := by
  by_cases h : b < 0
  · rw [eventsZ_neg h]; simp
  · obtain ⟨k, rfl⟩ := Int.eq_ofNat_of_zero_le (by omega : 0 ≤ b)
    rw [eventsZ_nat]
    cases hk : l[k]? with
    | none => rw [events_none (List.getElem?_eq_none_iff.1 hk)]; simp
    | some x =>
      have h1 := events_len k x (hg.str k) hk
      have h2 := (hg.ok hk).s
      omega

set_option maxHeartbeats 4000000 in
set_option maxRecDepth 100000 in
theorem branches_own (xs : List Int) (v : Value) (w : World) (hx : IsInts w v xs) (hw : ∀ x ∈ xs, I64 x) :
    Calls Try.prog 14 #[v] w fun e w' => ∃ v', e = .returned v' ∧ ∃ l, IsBrs w' v' l ∧ (Good1 l ∧ OwnIn l) ∧ Below w.heap.size w w' := by
  obtain ⟨ad, cap, rfl, hlen, -, hc⟩ := hx.open
  unfold maxLen at hlen
  have HX := Lib.hid hx
  have HW := Lib.hid hw
  have HC := Lib.hid hc
  have h0 := refRoot [] (.slice none 0 0) 0 w (IsBrs.nil _ _ _) (by simp) (by simp)
  have HR0 := Lib.hid (show Calls Try.prog 16 #[.slice none 0 0, .int .i64 0] w (Ret3 w ([⟨-1, 0, 0, [], true⟩], 0, 0)) from h0)
  have HG0 : Hid (GoodK 0 [⟨-1, 0, 0, [], true⟩]) := ⟨⟨rootF_good (l := []) (n := 0) good_nil rfl, by simp⟩, OwnIn.nil.push (x := ⟨-1, 0, 0, [], true⟩) rfl⟩
  clear hx hw hc h0
  go_enter Try.func14, Try.ntmps14
  go_wp2_with fail
  refine HR0.out.mono ?_
  rintro e w1 ⟨v1, rfl, hv1, hb1⟩
  have HV1 := Lib.hid hv1
  have HB1 := Lib.hid hb1
  clear hv1 hb1
  go_wp2_with fail
  go_loopw [3, 6] (fun a i wr => ∃ (k : Nat) (m : List Br), i = .int .i64 k ∧ k ≤ 362 ∧ IsBrs wr a m ∧ Hid (GoodK k m) ∧ w.heap.size ≤ wr.heap.size ∧ Hid (Below w.heap.size w wr)) (fun _ i _ => 400 - (intOf i).toNat)
  case atStart => exact ⟨0, _, rfl, by omega, HV1.out, HG0, HB1.out.size, HB1⟩
  case round =>
    obtain ⟨k, m, rfl, hk, hm, HG, hsz, HB⟩ := hrel
    have HM := Lib.hid hm
    obtain ⟨ad2, cap2, rfl, -, -, -⟩ := hm.open
    clear hm
    by_cases hkl : (k : Int) < (xs.length : Int)
    · by_cases hk2 : (k : Int) < 360
      · have hkn : k < xs.length := by omega
        obtain ⟨bb, off, rfl, hcell0⟩ := HC.out k hkn
        have hcell : wr.cell? ⟨bb, off + k, none⟩ = some (.int .i64 xs[k]) := (HB.out.cell (World.block_lt_of_cell? _ _ hcell0)).trans hcell0
        have HXR := HX.out.below HB.out
        have HLN : Hid (m.length ≤ 1000) := (by have := HG.out.1.1.1; show _ ≤ _; omega)
        have hml : (1 : Int) ≤ (m.length : Int) := by have := HG.out.1.2; omega
        obtain ⟨a, ha⟩ : ∃ a, pick xs (k + 1) m.length = a := ⟨_, rfl⟩
        obtain ⟨c, hcc⟩ : ∃ c, pick xs (k + 2) 16 = c := ⟨_, rfl⟩
        obtain ⟨j, hj⟩ : ∃ j, around xs[k] 10 = j := ⟨_, rfl⟩
        have hp1 := pick_any xs _ (k + 1) m.length wr HXR HW.out (by omega) hml
        have hp2 := pick_any xs _ (k + 2) 16 wr HXR HW.out (by omega) (by omega)
        have har := around_any xs[k] 10 (HW.out _ (List.getElem_mem hkn)) (by omega) wr
        rw [ha] at hp1
        rw [hcc] at hp2
        rw [hj] at har
        have hc0 : 0 ≤ c ∧ c < 16 := by
          rw [← hcc]; unfold pick
          split
          · exact ⟨around_lo _ _ (by omega), around_hi _ _ (by omega)⟩
          · omega
        obtain ⟨hc1, hc2⟩ := hc0
        have HP1 := Lib.hid (show Calls Try.prog 43 #[.slice (some ⟨bb, off, none⟩) xs.length cap, .int .i64 ((k : Int) + 1), .int .i64 m.length] wr fun e w' => e = .returned (.int .i64 a) ∧ wr = w' from hp1)
        have HP2 := Lib.hid (show Calls Try.prog 43 #[.slice (some ⟨bb, off, none⟩) xs.length cap, .int .i64 ((k : Int) + 2), .int .i64 16] wr fun e w' => e = .returned (.int .i64 c) ∧ wr = w' from hp2)
        have HAR := Lib.hid har
        clear hp1 hp2 har ha hcc hj hcell0 HXR
        generalize xs[k] = xk at *
        clear hkn
        by_cases hj0 : j = 0
        · skip
          subst hj0
          by_cases hz : (rootF m c).2.2 = 0
          · have HN : Hid (GoodK (k + 3) (rootF m c).1) := rootK HG.out hz
            have hz' : ((rootF m c).2.2 == 0) = true := by simpa using hz
            clear hz
            go_wp2_with fail
            refine HP1.out.mono ?_
            rintro e w' ⟨rfl, rfl⟩
            go_wp2_with fail
            refine HP2.out.mono ?_
            rintro e w' ⟨rfl, rfl⟩
            go_wp2_with fail
            refine HAR.out.mono ?_
            rintro e w' ⟨rfl, rfl⟩
            go_wp2_with fail
            refine (refRoot m _ c wr HM.out HLN.out HG.out.1.1.owns).mono ?_
            rintro e w9 ⟨v9, rfl, hv9, hb9⟩
            have HB9 := Lib.hid (Below.to HB.out hb9 hsz)
            go_wp2_with fail
            go_roundw
            case rel => exact ⟨k + 3, _, by go_num, by omega, hv9, HN, HB9.out.size, HB9⟩
            case measure => simp [intOf]; omega
          · have hz' : ((rootF m c).2.2 == 0) = false := by simpa using hz
            clear hz
            go_wp2_with fail
            refine HP1.out.mono ?_
            rintro e w' ⟨rfl, rfl⟩
            go_wp2_with fail
            refine HP2.out.mono ?_
            rintro e w' ⟨rfl, rfl⟩
            go_wp2_with fail
            refine HAR.out.mono ?_
            rintro e w' ⟨rfl, rfl⟩
            go_wp2_with fail
            refine (refRoot m _ c wr HM.out HLN.out HG.out.1.1.owns).mono ?_
            rintro e w9 ⟨v9, rfl, hv9, hb9⟩
            have HB9 := Lib.hid (Below.to HB.out hb9 hsz)
            go_wp2_with fail
            go_roundw
            case rel => exact ⟨k + 3, m, by go_num, by omega, HM.out.below hb9, HG.out.up, HB9.out.size, HB9⟩
            case measure => simp [intOf]; omega
        · by_cases hj1 : j = 1 ∨ j = 2
          · rcases hj1 with hj1 | hj1
            · subst hj1
              by_cases hz : (forkF m a c).2.2 = 0
              · have HN : Hid (GoodK (k + 3) (forkF m a c).1) := forkK HG.out hz
                have hz' : ((forkF m a c).2.2 == 0) = true := by simpa using hz
                clear hz
                go_wp2_with fail
                refine HP1.out.mono ?_
                rintro e w' ⟨rfl, rfl⟩
                go_wp2_with fail
                refine HP2.out.mono ?_
                rintro e w' ⟨rfl, rfl⟩
                go_wp2_with fail
                refine HAR.out.mono ?_
                rintro e w' ⟨rfl, rfl⟩
                go_wp2_with fail
                refine (refFork m _ a c wr HM.out HG.out.1.1).mono ?_
                rintro e w9 ⟨v9, rfl, hv9, hb9⟩
                have HB9 := Lib.hid (Below.to HB.out hb9 hsz)
                go_wp2_with fail
                go_roundw
                case rel => exact ⟨k + 3, _, by go_num, by omega, hv9, HN, HB9.out.size, HB9⟩
                case measure => simp [intOf]; omega
              · have hz' : ((forkF m a c).2.2 == 0) = false := by simpa using hz
                clear hz
                go_wp2_with fail
                refine HP1.out.mono ?_
                rintro e w' ⟨rfl, rfl⟩
                go_wp2_with fail
                refine HP2.out.mono ?_
                rintro e w' ⟨rfl, rfl⟩
                go_wp2_with fail
                refine HAR.out.mono ?_
                rintro e w' ⟨rfl, rfl⟩
                go_wp2_with fail
                refine (refFork m _ a c wr HM.out HG.out.1.1).mono ?_
                rintro e w9 ⟨v9, rfl, hv9, hb9⟩
                have HB9 := Lib.hid (Below.to HB.out hb9 hsz)
                go_wp2_with fail
                go_roundw
                case rel => exact ⟨k + 3, m, by go_num, by omega, HM.out.below hb9, HG.out.up, HB9.out.size, HB9⟩
                case measure => simp [intOf]; omega
            · subst hj1
              by_cases hz : (forkF m a c).2.2 = 0
              · have HN : Hid (GoodK (k + 3) (forkF m a c).1) := forkK HG.out hz
                have hz' : ((forkF m a c).2.2 == 0) = true := by simpa using hz
                clear hz
                go_wp2_with fail
                refine HP1.out.mono ?_
                rintro e w' ⟨rfl, rfl⟩
                go_wp2_with fail
                refine HP2.out.mono ?_
                rintro e w' ⟨rfl, rfl⟩
                go_wp2_with fail
                refine HAR.out.mono ?_
                rintro e w' ⟨rfl, rfl⟩
                go_wp2_with fail
                refine (refFork m _ a c wr HM.out HG.out.1.1).mono ?_
                rintro e w9 ⟨v9, rfl, hv9, hb9⟩
                have HB9 := Lib.hid (Below.to HB.out hb9 hsz)
                go_wp2_with fail
                go_roundw
                case rel => exact ⟨k + 3, _, by go_num, by omega, hv9, HN, HB9.out.size, HB9⟩
                case measure => simp [intOf]; omega
              · have hz' : ((forkF m a c).2.2 == 0) = false := by simpa using hz
                clear hz
                go_wp2_with fail
                refine HP1.out.mono ?_
                rintro e w' ⟨rfl, rfl⟩
                go_wp2_with fail
                refine HP2.out.mono ?_
                rintro e w' ⟨rfl, rfl⟩
                go_wp2_with fail
                refine HAR.out.mono ?_
                rintro e w' ⟨rfl, rfl⟩
                go_wp2_with fail
                refine (refFork m _ a c wr HM.out HG.out.1.1).mono ?_
                rintro e w9 ⟨v9, rfl, hv9, hb9⟩
                have HB9 := Lib.hid (Below.to HB.out hb9 hsz)
                go_wp2_with fail
                go_roundw
                case rel => exact ⟨k + 3, m, by go_num, by omega, HM.out.below hb9, HG.out.up, HB9.out.size, HB9⟩
                case measure => simp [intOf]; omega
          · by_cases hj3 : j = 3
            · skip
              subst hj3
              by_cases hz : (remandF m a).2 = 0
              · have HN : Hid (GoodK (k + 3) (remandF m a).1) := remandK HG.out hz
                have hz' : ((remandF m a).2 == 0) = true := by simpa using hz
                clear hz
                go_wp2_with fail
                refine HP1.out.mono ?_
                rintro e w' ⟨rfl, rfl⟩
                go_wp2_with fail
                refine HP2.out.mono ?_
                rintro e w' ⟨rfl, rfl⟩
                go_wp2_with fail
                refine HAR.out.mono ?_
                rintro e w' ⟨rfl, rfl⟩
                go_wp2_with fail
                refine (refRemand m _ a wr HM.out HG.out.1.1).mono ?_
                rintro e w9 ⟨v9, rfl, hv9, hb9⟩
                have HB9 := Lib.hid (Below.to HB.out hb9 hsz)
                go_wp2_with fail
                go_roundw
                case rel => exact ⟨k + 3, _, by go_num, by omega, hv9, HN, HB9.out.size, HB9⟩
                case measure => simp [intOf]; omega
              · have hz' : ((remandF m a).2 == 0) = false := by simpa using hz
                clear hz
                go_wp2_with fail
                refine HP1.out.mono ?_
                rintro e w' ⟨rfl, rfl⟩
                go_wp2_with fail
                refine HP2.out.mono ?_
                rintro e w' ⟨rfl, rfl⟩
                go_wp2_with fail
                refine HAR.out.mono ?_
                rintro e w' ⟨rfl, rfl⟩
                go_wp2_with fail
                refine (refRemand m _ a wr HM.out HG.out.1.1).mono ?_
                rintro e w9 ⟨v9, rfl, hv9, hb9⟩
                have HB9 := Lib.hid (Below.to HB.out hb9 hsz)
                go_wp2_with fail
                go_roundw
                case rel => exact ⟨k + 3, m, by go_num, by omega, HM.out.below hb9, HG.out.up, HB9.out.size, HB9⟩
                case measure => simp [intOf]; omega
            · have e0 : (j == 0) = false := by simpa using hj0
              have e1 : (j == 1) = false := by simp; omega
              have e2 : (j == 2) = false := by simp; omega
              have e3 : (j == 3) = false := by simpa using hj3
              have q1 : IntKind.i64.wrap (100 * (k : Int)) = 100 * (k : Int) := by rw [IntKind.wrap_i64]; omega
              have q2 : IntKind.i64.wrap (100 * (k : Int) + c) = 100 * (k : Int) + c := by rw [IntKind.wrap_i64]; omega
              clear hj0 hj1 hj3
              by_cases hz : (addF m a (100 * (k : Int) + c)).2 = 0
              · have HN : Hid (GoodK (k + 3) (addF m a (100 * (k : Int) + c)).1) := addK HG.out ⟨by omega, by omega⟩ hz
                have hz' : ((addF m a (100 * (k : Int) + c)).2 == 0) = true := by simpa using hz
                clear hz
                go_wp2_with fail
                refine HP1.out.mono ?_
                rintro e w' ⟨rfl, rfl⟩
                go_wp2_with fail
                refine HP2.out.mono ?_
                rintro e w' ⟨rfl, rfl⟩
                go_wp2_with fail
                refine HAR.out.mono ?_
                rintro e w' ⟨rfl, rfl⟩
                go_wp2_with fail
                refine (refAdd m _ a (100 * (k : Int) + c) wr HM.out HG.out.1.1).mono ?_
                rintro e w9 ⟨v9, rfl, hv9, hb9⟩
                have HB9 := Lib.hid (Below.to HB.out hb9 hsz)
                go_wp2_with fail
                go_roundw
                case rel => exact ⟨k + 3, _, by go_num, by omega, hv9, HN, HB9.out.size, HB9⟩
                case measure => simp [intOf]; omega
              · have hz' : ((addF m a (100 * (k : Int) + c)).2 == 0) = false := by simpa using hz
                clear hz
                go_wp2_with fail
                refine HP1.out.mono ?_
                rintro e w' ⟨rfl, rfl⟩
                go_wp2_with fail
                refine HP2.out.mono ?_
                rintro e w' ⟨rfl, rfl⟩
                go_wp2_with fail
                refine HAR.out.mono ?_
                rintro e w' ⟨rfl, rfl⟩
                go_wp2_with fail
                refine (refAdd m _ a (100 * (k : Int) + c) wr HM.out HG.out.1.1).mono ?_
                rintro e w9 ⟨v9, rfl, hv9, hb9⟩
                have HB9 := Lib.hid (Below.to HB.out hb9 hsz)
                go_wp2_with fail
                go_roundw
                case rel => exact ⟨k + 3, m, by go_num, by omega, HM.out.below hb9, HG.out.up, HB9.out.size, HB9⟩
                case measure => simp [intOf]; omega
      · go_wp2_with fail
        go_ret
        exact ⟨_, rfl, m, HM.out, HG.out, HB.out⟩
    · go_wp2_with fail
      go_ret
      exact ⟨_, rfl, m, HM.out, HG.out, HB.out⟩

end Go.Proofs.Ytgfnelpfoegdaaa
