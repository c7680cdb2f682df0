/-
  The examples of the chapter hold. (Printed by wip/tools/gen_lives17.py.)
-/
import Derived.Test.YtkcmkpljpmfiaaaDoorSam
import Derived.Deep.RegionHeld3
namespace Go.Proofs.YtkcmkpljpmfiaaaDoor
open Go.RowKit

theorem IsSps.take {w : World} {a : Option Addr} {n cap : Nat} {l : List (Int × Int)} (h : IsSps w (.slice a n cap) l) (k : Nat) (hk : k ≤ l.length) : IsSps w (.slice a k cap) (l.take k) := by
  obtain ⟨h1, h2, a', cap', hv, hn, hc⟩ := h
  simp only [Value.slice.injEq] at hv
  obtain ⟨rfl, rfl, rfl⟩ := hv
  have hl : (l.take k).length = k := by rw [List.length_take]; omega
  refine ⟨by rw [spCells_len], by omega, a, cap, by rw [hl], by omega, fun j u hu => hc j u ?_⟩
  have hj : j < k * 2 := by
    have := (List.getElem?_eq_some_iff.1 hu).1
    rw [spCells_len, hl] at this
    exact this
  obtain ⟨i, c, rfl, hi, hcc⟩ : ∃ i c, j = i * 2 + c ∧ i < k ∧ c < 2 := ⟨j / 2, j % 2, by omega, by omega, by omega⟩
  rw [spCells_get _ i c (by omega) hcc] at hu
  rw [spCells_get _ i c (by omega) hcc]
  simpa using hu

theorem merge_at (l m : List (Int × Int)) (v : Value) (w : World) (hx : IsSps w v l) (hl : l.length ≤ 100000) (hb : SpB l) (hs : l.Pairwise (fun a b => a.1 < b.1)) (hm : mrgF l = m) :
    Calls Tryd.prog 13 #[v] w fun e w' => ∃ v', e = .returned v' ∧ IsSps w' v' m ∧ Below w.heap.size w w' := by
  refine (merge_any l v w hx hl hb).mono ?_
  rintro e w' ⟨v', rfl, l', hp, hv, hb'⟩
  rw [perm_sorted_eq l l' hs hp.1 hp.2, hm] at hv
  exact ⟨v', rfl, hv, hb'⟩
theorem days_at (l m : List (Int × Int)) (v : Value) (f u n : Int) (w : World) (hx : IsSps w v l) (hl : l.length ≤ 100000) (hb : SpB l) (hf : DayB f) (hu : DayB u) (hs : l.Pairwise (fun a b => a.1 < b.1)) (hm : mrgF l = m) (hn : daysF f u m = n) :
    Calls Tryd.prog 9 #[v, .int .i64 f, .int .i64 u] w fun e w' => e = .returned (.int .i64 n) ∧ Below w.heap.size w w' := by
  refine (days_any l v f u w hx hl hb hf hu).mono ?_
  rintro e w' ⟨n', rfl, l', hp, hv, hb'⟩
  rw [perm_sorted_eq l l' hs hp.1 hp.2, hm, hn] at hv
  subst hv
  exact ⟨rfl, hb'⟩
theorem ext_at (l m : List (Int × Int)) (v : Value) (st due x y : Int) (w : World) (hx : IsSps w v l) (hl : l.length ≤ 100000) (hb : SpB l) (hst : DayB st) (hdue : DayB due) (hs : l.Pairwise (fun a b => a.1 < b.1)) (hm : mrgF l = m) (hn : extF st due m = (x, y)) :
    Calls Tryd.prog 6 #[.int .i64 st, .int .i64 due, v] w fun e w' => e = .returned (.tuple #[.int .i64 x, .int .i64 y]) ∧ Below w.heap.size w w' := by
  refine (extend_any l v st due w hx hl hb hst hdue).mono ?_
  rintro e w' ⟨x', y', rfl, l', hp, hv, hb'⟩
  rw [perm_sorted_eq l l' hs hp.1 hp.2, hm, hn] at hv
  simp only [Prod.mk.injEq] at hv
  obtain ⟨rfl, rfl⟩ := hv
  exact ⟨rfl, hb'⟩
theorem used_at (l m r : List (Int × Int)) (v : Value) (st due : Int) (w : World) (hx : IsSps w v l) (hl : l.length ≤ 100000) (hb : SpB l) (hst : DayB st) (hdue : DayB due) (hs : l.Pairwise (fun a b => a.1 < b.1)) (hm : mrgF l = m) (hn : usedF st due m l = r) :
    Calls Tryd.prog 17 #[.int .i64 st, .int .i64 due, v] w fun e w' => ∃ v', e = .returned v' ∧ IsSps w' v' r ∧ Below w.heap.size w w' := by
  refine (used_any l v st due w hx hl hb hst hdue).mono ?_
  rintro e w' ⟨v', rfl, l', hp, hv, hb'⟩
  rw [perm_sorted_eq l l' hs hp.1 hp.2, hm, hn] at hv
  exact ⟨v', rfl, hv, hb'⟩

def l4 : List (Int × Int) := [(10, 12), (12, 15), (17, 17), (30, 40)]
def m4 : List (Int × Int) := [(10, 15), (17, 17), (30, 40)]
def l1 : List (Int × Int) := [(3652057, 3652057)]

theorem l4_b : SpB l4 := by
  intro x hx
  simp [l4] at hx
  rcases hx with rfl | rfl | rfl | rfl <;> simp
theorem l1_b : SpB l1 := by
  intro x hx
  simp [l1] at hx
  subst hx
  simp
theorem l4_s : l4.Pairwise (fun a b => a.1 < b.1) := by decide
theorem l1_s : l1.Pairwise (fun a b => a.1 < b.1) := by decide
theorem l4_m : mrgF l4 = m4 := by decide
theorem l1_m : mrgF l1 = l1 := by decide
theorem ex1 : extF 8 11 m4 = (18, 0) := by decide
theorem ex2 : extF 8 9 m4 = (9, 0) := by decide
theorem ex3 : extF 3652055 3652058 l1 = (0, 31) := by decide
theorem ex4 : usedF 8 9 m4 l4 = [] := by decide
theorem ex5 : daysF 11 17 m4 = 6 := by decide
theorem ex6 : usedF 8 11 m4 l4 = l4.take 3 := by decide
theorem dayB {n : Int} (h : 0 ≤ n ∧ n ≤ 4000000) : DayB n := by unfold DayB; omega

set_option maxHeartbeats 4000000 in
set_option maxRecDepth 100000 in
theorem lives_any (w : World) : Calls Tryd.prog 10 #[] w fun e w' => e = .returned (.bool true) ∧ Below w.heap.size w w' := by
  obtain ⟨W0, hW0⟩ : ∃ W0, W0 = w.alloc (.cells #[.int .i64 10, .int .i64 12, .int .i64 12, .int .i64 15, .int .i64 17, .int .i64 17, .int .i64 30, .int .i64 40] 36) := ⟨_, rfl⟩
  have HL0 : Hid (IsSps W0 (.slice (some ⟨w.heap.size, 0, none⟩) 4 4) l4) := by rw [hW0]; exact spans_lit w l4 36 (by decide)
  have HB0 : Hid (Below w.heap.size w W0) := by rw [hW0]; exact (Below.refl _ _).alloc (Nat.le_refl _) _
  have HW0 := Lib.hid hW0
  clear hW0
  go_enter Tryd.func10, Tryd.ntmps10
  go_wp2_with fail
  rw [← HW0.out]
  refine (ext_at l4 m4 _ 8 11 18 0 W0 HL0.out (by decide) l4_b (dayB (by omega)) (dayB (by omega)) l4_s l4_m ex1).mono ?_
  rintro e w1 ⟨rfl, hb1⟩
  have HL1 := Lib.hid (HL0.out.below hb1)
  have HB1 := Lib.hid (Below.to HB0.out hb1 HB0.out.size)
  clear hb1
  go_wp2_with fail
  refine (ext_at l4 m4 _ 8 9 9 0 w1 HL1.out (by decide) l4_b (dayB (by omega)) (dayB (by omega)) l4_s l4_m ex2).mono ?_
  rintro e w2 ⟨rfl, hb2⟩
  have HL2 := Lib.hid (HL1.out.below hb2)
  have HB2 := Lib.hid (Below.to HB1.out hb2 HB1.out.size)
  clear hb2
  go_wp2_with fail
  refine (ext_at l1 l1 _ 3652055 3652058 0 31 _ (spans_lit w2 l1 36 (by decide)) (by decide) l1_b (dayB (by omega)) (dayB (by omega)) l1_s l1_m ex3).mono ?_
  rintro e w3 ⟨rfl, hb3⟩
  have hb3' : Below w2.heap.size w2 w3 := Below.to ((Below.refl w2.heap.size w2).alloc (Nat.le_refl _) _) hb3 (by simp)
  have HL3 := Lib.hid (HL2.out.below hb3')
  have HB3 := Lib.hid (Below.to HB2.out hb3' HB2.out.size)
  clear hb3 hb3'
  obtain ⟨W4, hW4⟩ : ∃ W4, W4 = w3.alloc (.cells #[.int .i64 10, .int .i64 15, .int .i64 17, .int .i64 17, .int .i64 30, .int .i64 40] 36) := ⟨_, rfl⟩
  have HM4 : Hid (IsSps W4 (.slice (some ⟨w3.heap.size, 0, none⟩) 3 3) m4) := by rw [hW4]; exact spans_lit w3 m4 36 (by decide)
  have hb4 : Below w3.heap.size w3 W4 := by rw [hW4]; exact (Below.refl _ _).alloc (Nat.le_refl _) _
  have HL4 := Lib.hid (HL3.out.below hb4)
  have HB4 := Lib.hid (Below.to HB3.out hb4 HB3.out.size)
  have HW4 := Lib.hid hW4
  clear hW4 hb4
  go_wp2_with fail
  rw [← HW4.out]
  refine (used_at l4 m4 [] _ 8 9 W4 HL4.out (by decide) l4_b (dayB (by omega)) (dayB (by omega)) l4_s l4_m ex4).mono ?_
  rintro e w5 ⟨v5, rfl, hv5, hb5⟩
  obtain ⟨a5, c5, rfl, -, -, -⟩ := hv5.open
  have HL5 := Lib.hid (HL4.out.below hb5)
  have HM5 := Lib.hid (HM4.out.below hb5)
  have HB5 := Lib.hid (Below.to HB4.out hb5 HB4.out.size)
  clear hb5 hv5
  have HL5d : Hid (IsSps w5.drew (.slice (some ⟨w.heap.size, 0, none⟩) 4 4) l4) := HL5.out.below (Below.refl _ _).drew
  have HM5d : Hid (IsSps w5.drew (.slice (some ⟨w3.heap.size, 0, none⟩) 3 3) m4) := HM5.out.below (Below.refl _ _).drew
  have HB5d : Hid (Below w.heap.size w w5.drew) := HB5.out.drew
  go_wp2_with fail
  refine wp_region_held_drew (S := (fun _ => True)) (by kernel_rfl) (trivial) (fun hHeld => ?_)
  refine wpAnyH_take (i := 0) (v := ?vLiv0) rfl (by kernel_rfl) (by kernel_rfl) (by kernel_rfl) (fun _ _ _ h => h) (Or.inl ⟨by kernel_rfl, ?yLiv0⟩) (by assumption) ?_
  case yLiv0 => (intro w hSw; (try dsimp only at hSw); first | (go_simp; done) | (go_simp; with_reducible rfl))
  try simp only [Act.put, List.setIfInBounds_toArray, List.set_cons_zero, List.set_cons_succ, List.getElem_toArray, List.getElem_cons_succ, List.getElem_cons_zero]
  refine wpAnyH_take (i := 2) (v := ?vLiv2) rfl (by kernel_rfl) (by kernel_rfl) (by kernel_rfl) (fun _ _ _ h => h) (Or.inl ⟨by kernel_rfl, ?yLiv2⟩) (by assumption) ?_
  case yLiv2 => (intro w hSw; (try dsimp only at hSw); first | (go_simp; done) | (go_simp; with_reducible rfl))
  try simp only [Act.put, List.setIfInBounds_toArray, List.set_cons_zero, List.set_cons_succ, List.getElem_toArray, List.getElem_cons_succ, List.getElem_cons_zero]
  refine wpAnyH_ready (rs := [1]) (by kernel_rfl) (by simp) ?_
  refine AllReadyH.cons rfl (fun K hK => ?_) AllReadyH.nil
  go_simp
  go_at_call 13
  refine (merge_at l4 m4 _ w5.drew HL5d.out (by decide) l4_b l4_s l4_m).mono ?_
  rintro e w6 ⟨v6, rfl, hv6, hb6⟩
  have HV6 := Lib.hid hv6
  have HL6 := Lib.hid (HL5d.out.below hb6)
  have HM6 := Lib.hid (HM5d.out.below hb6)
  have HB6 := Lib.hid (Below.to HB5d.out hb6 HB5d.out.size)
  clear hb6 hv6
  dsimp only
  refine hK.out _ _ ?hsLiv1 (fun hHeld => ?_)
  case hsLiv1 => trivial
  clear hK K
  try simp only [Act.put, List.setIfInBounds_toArray, List.set_cons_zero, List.set_cons_succ, List.getElem_toArray, List.getElem_cons_succ, List.getElem_cons_zero]
  refine wpAnyH_ready (rs := [3]) (by kernel_rfl) (by simp) ?_
  refine AllReadyH.cons rfl (fun K hK => ?_) AllReadyH.nil
  go_simp
  go_at_call 18
  refine (sameSpans_eq m4 _ _ w6 HV6.out HM6.out).mono ?_
  rintro e w7 ⟨rfl, hb7⟩
  have HL7 := Lib.hid (HL6.out.below hb7)
  have HB7 := Lib.hid (Below.to HB6.out hb7 HB6.out.size)
  clear hb7
  dsimp only
  refine hK.out _ _ ?hsLiv3 (fun hHeld => ?_)
  case hsLiv3 => trivial
  clear hK K
  try simp only [Act.put, List.setIfInBounds_toArray, List.set_cons_zero, List.set_cons_succ, List.getElem_toArray, List.getElem_cons_succ, List.getElem_cons_zero]
  refine wpAnyH_take (i := 4) (v := ?vLiv4) rfl (by kernel_rfl) (by kernel_rfl) (by kernel_rfl) (fun _ _ _ h => h) (Or.inl ⟨by kernel_rfl, ?yLiv4⟩) (by assumption) ?_
  case yLiv4 => (intro w hSw; (try dsimp only at hSw); first | (go_simp; done) | (go_simp; with_reducible rfl))
  try simp only [Act.put, List.setIfInBounds_toArray, List.set_cons_zero, List.set_cons_succ, List.getElem_toArray, List.getElem_cons_succ, List.getElem_cons_zero]
  refine wpAnyH_take (i := 5) (v := ?vLiv5) rfl (by kernel_rfl) (by kernel_rfl) (by kernel_rfl) (fun _ _ _ h => h) (Or.inl ⟨by kernel_rfl, ?yLiv5⟩) (by assumption) ?_
  case yLiv5 => (intro w hSw; (try dsimp only at hSw); first | (go_simp; done) | (go_simp; with_reducible rfl))
  try simp only [Act.put, List.setIfInBounds_toArray, List.set_cons_zero, List.set_cons_succ, List.getElem_toArray, List.getElem_cons_succ, List.getElem_cons_zero]
  refine wpAnyH_ready (rs := [6]) (by kernel_rfl) (by simp) ?_
  refine AllReadyH.cons rfl (fun K hK => ?_) AllReadyH.nil
  go_simp
  go_at_call 9
  refine (days_at l4 m4 _ 11 17 6 w7 HL7.out (by decide) l4_b (dayB (by omega)) (dayB (by omega)) l4_s l4_m ex5).mono ?_
  rintro e w8 ⟨rfl, hb8⟩
  have HL8 := Lib.hid (HL7.out.below hb8)
  have HB8 := Lib.hid (Below.to HB7.out hb8 HB7.out.size)
  clear hb8
  dsimp only
  refine hK.out _ _ ?hsLiv6 (fun hHeld => ?_)
  case hsLiv6 => trivial
  clear hK K
  try simp only [Act.put, List.setIfInBounds_toArray, List.set_cons_zero, List.set_cons_succ, List.getElem_toArray, List.getElem_cons_succ, List.getElem_cons_zero]
  refine wpAnyH_take (i := 7) (v := ?vLiv7) rfl (by kernel_rfl) (by kernel_rfl) (by kernel_rfl) (fun _ _ _ h => h) (Or.inl ⟨by kernel_rfl, ?yLiv7⟩) (by assumption) ?_
  case yLiv7 => (intro w hSw; (try dsimp only at hSw); first | (go_simp; done) | (go_simp; with_reducible rfl))
  try simp only [Act.put, List.setIfInBounds_toArray, List.set_cons_zero, List.set_cons_succ, List.getElem_toArray, List.getElem_cons_succ, List.getElem_cons_zero]
  refine wpAnyH_take (i := 8) (v := ?vLiv8) rfl (by kernel_rfl) (by kernel_rfl) (by kernel_rfl) (fun _ _ _ h => h) (Or.inl ⟨by kernel_rfl, ?yLiv8⟩) (by assumption) ?_
  case yLiv8 => (intro w hSw; (try dsimp only at hSw); first | (go_simp; done) | (go_simp; with_reducible rfl))
  try simp only [Act.put, List.setIfInBounds_toArray, List.set_cons_zero, List.set_cons_succ, List.getElem_toArray, List.getElem_cons_succ, List.getElem_cons_zero]
  refine wpAnyH_take (i := 9) (v := ?vLiv9) rfl (by kernel_rfl) (by kernel_rfl) (by kernel_rfl) (fun _ _ _ h => h) (Or.inl ⟨by kernel_rfl, ?yLiv9⟩) (by assumption) ?_
  case yLiv9 => (intro w hSw; (try dsimp only at hSw); first | (go_simp; done) | (go_simp; with_reducible rfl))
  try simp only [Act.put, List.setIfInBounds_toArray, List.set_cons_zero, List.set_cons_succ, List.getElem_toArray, List.getElem_cons_succ, List.getElem_cons_zero]
  refine wpAnyH_take (i := 10) (v := ?vLiv10) rfl (by kernel_rfl) (by kernel_rfl) (by kernel_rfl) (fun _ _ _ h => h) (Or.inl ⟨by kernel_rfl, ?yLiv10⟩) (by assumption) ?_
  case yLiv10 => (intro w hSw; (try dsimp only at hSw); first | (go_simp; done) | (go_simp; with_reducible rfl))
  try simp only [Act.put, List.setIfInBounds_toArray, List.set_cons_zero, List.set_cons_succ, List.getElem_toArray, List.getElem_cons_succ, List.getElem_cons_zero]
  refine wpAnyH_take (i := 12) (v := ?vLiv12) rfl (by kernel_rfl) (by kernel_rfl) (by kernel_rfl) (fun _ _ _ h => h) (Or.inl ⟨by kernel_rfl, ?yLiv12⟩) (by assumption) ?_
  case yLiv12 => (intro w hSw; (try dsimp only at hSw); first | (go_simp; done) | (go_simp; with_reducible rfl))
  try simp only [Act.put, List.setIfInBounds_toArray, List.set_cons_zero, List.set_cons_succ, List.getElem_toArray, List.getElem_cons_succ, List.getElem_cons_zero]
  refine wpAnyH_take (i := 13) (v := ?vLiv13) rfl (by kernel_rfl) (by kernel_rfl) (by kernel_rfl) (fun _ _ _ h => h) (Or.inl ⟨by kernel_rfl, ?yLiv13⟩) (by assumption) ?_
  case yLiv13 => (intro w hSw; (try dsimp only at hSw); first | (go_simp; done) | (go_simp; with_reducible rfl))
  try simp only [Act.put, List.setIfInBounds_toArray, List.set_cons_zero, List.set_cons_succ, List.getElem_toArray, List.getElem_cons_succ, List.getElem_cons_zero]
  refine wpAnyH_ready (rs := [11]) (by kernel_rfl) (by simp) ?_
  refine AllReadyH.cons rfl (fun K hK => ?_) AllReadyH.nil
  go_simp
  go_at_call 17
  refine (used_at l4 m4 (l4.take 3) _ 8 11 w8 HL8.out (by decide) l4_b (dayB (by omega)) (dayB (by omega)) l4_s l4_m ex6).mono ?_
  rintro e w9 ⟨v9, rfl, hv9, hb9⟩
  have HV9 := Lib.hid hv9
  have HL9 := Lib.hid (HL8.out.below hb9)
  have HB9 := Lib.hid (Below.to HB8.out hb9 HB8.out.size)
  have HT9 : Hid (IsSps w9 (.slice (some ⟨w.heap.size, 0, none⟩) 3 4) (l4.take 3)) := HL9.out.take 3 (by decide)
  clear hb9 hv9
  dsimp only
  refine hK.out _ _ ?hsLiv11 (fun hHeld => ?_)
  case hsLiv11 => trivial
  clear hK K
  try simp only [Act.put, List.setIfInBounds_toArray, List.set_cons_zero, List.set_cons_succ, List.getElem_toArray, List.getElem_cons_succ, List.getElem_cons_zero]
  refine wpAnyH_ready (rs := [14]) (by kernel_rfl) (by simp) ?_
  refine AllReadyH.cons rfl (fun K hK => ?_) AllReadyH.nil
  go_simp
  go_at_call 18
  refine (sameSpans_eq (l4.take 3) _ _ w9 HV9.out HT9.out).mono ?_
  rintro e w10 ⟨rfl, hb10⟩
  have HB10 := Lib.hid (Below.to HB9.out hb10 HB9.out.size)
  clear hb10
  dsimp only
  refine hK.out _ _ ?hsLiv14 (fun hHeld => ?_)
  case hsLiv14 => trivial
  clear hK K
  try simp only [Act.put, List.setIfInBounds_toArray, List.set_cons_zero, List.set_cons_succ, List.getElem_toArray, List.getElem_cons_succ, List.getElem_cons_zero]
  refine wpAnyH_take (i := 15) (v := ?vLiv15) rfl (by kernel_rfl) (by kernel_rfl) (by kernel_rfl) (fun _ _ _ h => h) (Or.inl ⟨by kernel_rfl, ?yLiv15⟩) (by assumption) ?_
  case yLiv15 => (intro w hSw; (try dsimp only at hSw); first | (go_simp; done) | (go_simp; with_reducible rfl))
  try simp only [Act.put, List.setIfInBounds_toArray, List.set_cons_zero, List.set_cons_succ, List.getElem_toArray, List.getElem_cons_succ, List.getElem_cons_zero]
  refine wpAnyH_take (i := 16) (v := ?vLiv16) rfl (by kernel_rfl) (by kernel_rfl) (by kernel_rfl) (fun _ _ _ h => h) (Or.inl ⟨by kernel_rfl, ?yLiv16⟩) (by assumption) ?_
  case yLiv16 => (intro w hSw; (try dsimp only at hSw); first | (go_simp; done) | (go_simp; with_reducible rfl))
  try simp only [Act.put, List.setIfInBounds_toArray, List.set_cons_zero, List.set_cons_succ, List.getElem_toArray, List.getElem_cons_succ, List.getElem_cons_zero]
  refine wpAnyH_done (by kernel_rfl) ?_ _
  go_wp2_with fail
  go_ret
  exact ⟨rfl, HB10.out⟩

end Go.Proofs.YtkcmkpljpmfiaaaDoor
