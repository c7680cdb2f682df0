/-
  The law TollingOrders: turning, repeating and merging the list changes nothing; its walk.
-/
import Derived.Test.YtkcmkpljpmfiaaaApK
import Derived.Test.YtkcmkpljpmfiaaaMrO
import Derived.Test.YtkcmkpljpmfiaaaInA
import Derived.Test.YtkcmkpljpmfiaaaGrP
import Derived.Deep.RegionHeld3
namespace Go.Proofs.Ytkcmkpljpmfiaaa
open Go.RowKit

theorem IsSps.drop {w : World} {b off n cap : Nat} {l : List (Int × Int)} (h : IsSps w (.slice (some ⟨b, off, none⟩) n cap) l) (k : Nat) (hk : k ≤ l.length) : IsSps w (.slice (some ⟨b, off + k * 2, none⟩) (n - k) (cap - k)) (l.drop k) := by
  obtain ⟨h1, h2, a', cap', hv, hn, hc⟩ := h
  simp only [Value.slice.injEq] at hv
  obtain ⟨rfl, rfl, rfl⟩ := hv
  have hl : (l.drop k).length = l.length - k := List.length_drop
  refine ⟨by rw [spCells_len], by omega, some ⟨b, off + k * 2, none⟩, cap - k, by rw [hl], by omega, fun j u hu => ⟨b, off + k * 2, rfl, ?_⟩⟩
  have hj : j < (l.length - k) * 2 := by
    have := (List.getElem?_eq_some_iff.1 hu).1
    rw [spCells_len, hl] at this
    exact this
  obtain ⟨i, c, rfl, hi, hcc⟩ : ∃ i c, j = i * 2 + c ∧ i < l.length - k ∧ c < 2 := ⟨j / 2, j % 2, by omega, by omega, by omega⟩
  rw [spCells_get _ i c (by omega) hcc] at hu
  obtain ⟨b', off', e', hcell⟩ := hc ((k + i) * 2 + c) u (by
    rw [spCells_get _ (k + i) c (by omega) hcc]
    simpa using hu)
  simp only [Option.some.injEq, Addr.mk.injEq, and_true] at e'
  obtain ⟨rfl, rfl⟩ := e'
  rw [show off + k * 2 + (i * 2 + c) = off + ((k + i) * 2 + c) from by omega]
  exact hcell

theorem turn_cov {l : List (Int × Int)} (k : Nat) (d : Int) : Cov (l.drop k ++ l.take k) d ↔ Cov l d :=
  cov_perm (by have := List.take_append_drop k l; exact (List.perm_append_comm).trans (by rw [this])) d

set_option maxHeartbeats 4000000 in
set_option maxRecDepth 100000 in
theorem tollingOrders_any (l : List Int) (v : Value) (n how a b turn : Int) (w : World) (hx : IsInts w v l) (hw : ∀ x ∈ l, I64 x) (hn : I64 n) (hh : I64 how) (ha : I64 a) (hb : I64 b) (ht : I64 turn) :
    Calls Try.prog 6 #[v, .int .i64 n, .int .i64 how, .int .i64 a, .int .i64 b, .int .i64 turn] w fun e w' => e = .returned (.bool true) ∧ Below w.heap.size w w' := by
  have hbs := base_any n how hn hh w
  have hdr := baseF_in n how
  obtain ⟨d, hd⟩ : ∃ d, baseF n how = d := ⟨_, rfl⟩
  rw [hd] at hbs hdr
  obtain ⟨hd1, hd2⟩ := hdr
  have HBS := Lib.hid hbs
  have HSP := Lib.hid (spans_any l v d w hx hw (by omega))
  obtain ⟨S, hS⟩ : ∃ S, spansF l d = S := ⟨_, rfl⟩
  have hr : InR S := by rw [← hS]; exact spansF_InR l d
  have hsl : S.length ≤ 6 := by rw [← hS]; exact spansF_len l d
  rw [hS] at HSP
  clear hbs hS
  by_cases hz : S.length = 0
  · have hz0 : S = [] := List.eq_nil_of_length_eq_zero hz
    subst hz0
    clear hd hd1 hd2 hx hw hn hh ha hb ht hz hr hsl
    go_enter Try.func6, Try.ntmps6
    go_wp2_with fail
    refine HBS.out.mono ?_
    rintro e w' ⟨rfl, rfl⟩
    go_wp2_with fail
    refine HSP.out.mono ?_
    rintro e w1 ⟨v1, rfl, hv1, hb1⟩
    have HB1 := Lib.hid hb1
    obtain ⟨a1, c1, rfl, -, -, -⟩ := hv1.open
    clear hv1 hb1
    go_wp2_with fail
    refine (lives_any _).mono ?_
    rintro e w99 ⟨rfl, hb99⟩
    go_wp2_with fail
    go_ret
    exact ⟨rfl, Below.to HB1.out hb99 HB1.out.size⟩
  obtain ⟨p, hp⟩ : ∃ p, around a 60 = p := ⟨_, rfl⟩
  obtain ⟨q, hq⟩ : ∃ q, around b 60 = q := ⟨_, rfl⟩
  have hp0 := around_lo a 60 (by omega)
  have hp9 := around_hi a 60 (by omega)
  have hq0 := around_lo b 60 (by omega)
  have hq9 := around_hi b 60 (by omega)
  have hk0 := around_lo turn (S.length : Int) (by omega)
  have hk9 := around_hi turn (S.length : Int) (by omega)
  obtain ⟨k, hk⟩ : ∃ k : Nat, around turn (S.length : Int) = (k : Int) := ⟨(around turn (S.length : Int)).toNat, by omega⟩
  have hkl : k < S.length := by omega
  have HP : Hid (∀ w, Calls Try.prog 15 #[.int .i64 a, .int .i64 60] w fun e w' => e = .returned (.int .i64 p) ∧ w = w') := fun w => by rw [← hp]; exact around_any a 60 ha (by omega) w
  have HQ : Hid (∀ w, Calls Try.prog 15 #[.int .i64 b, .int .i64 60] w fun e w' => e = .returned (.int .i64 q) ∧ w = w') := fun w => by rw [← hq]; exact around_any b 60 hb (by omega) w
  have HK : Hid (∀ w, Calls Try.prog 15 #[.int .i64 turn, .int .i64 (S.length : Int)] w fun e w' => e = .returned (.int .i64 (k : Int)) ∧ w = w') := fun w => by rw [← hk]; exact around_any turn (S.length : Int) ht (by omega) w
  rw [hp] at hp0 hp9
  rw [hq] at hq0 hq9
  obtain ⟨ST, hST⟩ : ∃ ST, clipF (d - 20 + p) = ST := ⟨_, rfl⟩
  obtain ⟨DU, hDU⟩ : ∃ DU, clipF (ST + q) = DU := ⟨_, rfl⟩
  have hSTB : 0 ≤ ST ∧ ST ≤ 3652058 := by have := clipF_in (d - 20 + p); omega
  have hDUB : 0 ≤ DU ∧ DU ≤ 3652058 := by have := clipF_in (ST + q); omega
  have HCF : Hid (∀ w, Calls Try.prog 14 #[.int .i64 (d - 20 + p)] w fun e w' => e = .returned (.int .i64 ST) ∧ w = w') := fun w => by rw [← hST]; exact clip_any _ w
  have HCU : Hid (∀ w, Calls Try.prog 14 #[.int .i64 (ST + q)] w fun e w' => e = .returned (.int .i64 DU) ∧ w = w') := fun w => by rw [← hDU]; exact clip_any _ w
  obtain ⟨M, hM⟩ : ∃ M, mrg S = M := ⟨_, rfl⟩
  obtain ⟨X, hX⟩ : ∃ X, (extF ST DU M).1 = X := ⟨_, rfl⟩
  obtain ⟨E, hE⟩ : ∃ E, (extF ST DU M).2 = E := ⟨_, rfl⟩
  obtain ⟨D, hD⟩ : ∃ D, daysF ST DU M = D := ⟨_, rfl⟩
  -- lists that merge to M
  have HEX : Hid (∀ L v w, (InR L ∧ L.length ≤ 10 ∧ mrg L = M) → IsSps w v L → Calls Try.prog 22 #[.int .i64 ST, .int .i64 DU, v] w fun e w' => e = .returned (.tuple #[.int .i64 X, .int .i64 E]) ∧ Below w.heap.size w w') := fun L v w ⟨h1, h2, h3⟩ h => by
    have := extend_fun L v ST DU w h (by omega) h1.B h1.val (by unfold DayB; omega) (by unfold DayB; omega)
    rw [h3, hX, hE] at this
    exact this
  have HDY : Hid (∀ L v w, (InR L ∧ L.length ≤ 10 ∧ mrg L = M) → IsSps w v L → Calls Try.prog 19 #[v, .int .i64 ST, .int .i64 DU] w fun e w' => e = .returned (.int .i64 D) ∧ Below w.heap.size w w') := fun L v w ⟨h1, h2, h3⟩ h => by
    have := days_fun L v ST DU w h (by omega) h1.B h1.val (by unfold DayB; omega) (by unfold DayB; omega)
    rw [h3, hD] at this
    exact this
  have HMG : Hid (∀ L v w, (InR L ∧ L.length ≤ 10 ∧ mrg L = M) → IsSps w v L → Calls Try.prog 17 #[v] w fun e w' => ∃ v', e = .returned v' ∧ IsSps w' v' M ∧ Below w.heap.size w w') := fun L v w ⟨h1, h2, h3⟩ h => by
    have := merge_fun L v w h (by omega) h1.B h1.val
    rw [h3] at this
    exact this
  have HMO : Hid (∀ v w, IsSps w v S → Calls Try.prog 17 #[v] w fun e w' => ∃ v', e = .returned v' ∧ w'.ownsRow w.heap.size 40 2 v' M.length (spCells M) ∧ Below w.heap.size w w') := fun v w h => by
    have := merge_ownF S v w h (by omega) hr.B hr.val
    rw [hM] at this
    exact this
  obtain ⟨sk, hsk⟩ : ∃ sk, S[k] = sk := ⟨_, rfl⟩
  have hskm : sk ∈ S := by rw [← hsk]; exact List.getElem_mem hkl
  have G0 : Hid (InR S ∧ S.length ≤ 10 ∧ mrg S = M) := ⟨hr, by omega, hM⟩
  have hr1 : InR (S.drop k ++ S.take k) := InR.app (fun s hs => hr s (List.mem_of_mem_drop hs)) (fun s hs => hr s (List.mem_of_mem_take hs))
  have hl1 : (S.drop k ++ S.take k).length = S.length := by simp; omega
  have G1 : Hid (InR (S.drop k ++ S.take k) ∧ (S.drop k ++ S.take k).length ≤ 10 ∧ mrg (S.drop k ++ S.take k) = M) := ⟨hr1, by rw [hl1]; omega, by rw [← hM]; exact mrg_same hr1.val hr.val (turn_cov k)⟩
  have hr2 : InR (S.drop k ++ S.take k ++ [sk]) := hr1.app (fun s hs => by simp at hs; subst hs; exact hr s hskm)
  have G2 : Hid (InR (S.drop k ++ S.take k ++ [sk]) ∧ (S.drop k ++ S.take k ++ [sk]).length ≤ 10 ∧ mrg (S.drop k ++ S.take k ++ [sk]) = M) := ⟨hr2, by rw [List.length_append, hl1]; simp; omega, by
    rw [← hM]
    refine mrg_same hr2.val hr.val (fun d => ?_)
    rw [cov_append, turn_cov]
    refine ⟨fun h => h.elim id (fun ⟨s, hs, hh⟩ => ?_), .inl⟩
    simp at hs
    subst hs
    exact ⟨s, hskm, hh⟩⟩
  have G3 : Hid (InR M ∧ M.length ≤ 10 ∧ mrg M = M) := ⟨by rw [← hM]; exact hr.mrg, by rw [← hM]; have := mrg_len S; omega, by rw [← hM]; exact mrg_mrg hr.val⟩
  have hl2 : (S.drop k).length = S.length - k := List.length_drop
  have hl3 : (S.take k).length = k := by rw [List.length_take]; omega
  obtain ⟨T1, hT1⟩ : ∃ T1, S.drop k = T1 := ⟨_, rfl⟩
  obtain ⟨T2, hT2⟩ : ∃ T2, S.take k = T2 := ⟨_, rfl⟩
  have q1 : IntKind.i64.wrap (d - 20) = d - 20 := by rw [IntKind.wrap_i64]; omega
  have q2 : IntKind.i64.wrap (d - 20 + p) = d - 20 + p := by rw [IntKind.wrap_i64]; omega
  have q3 : IntKind.i64.wrap (ST + q) = ST + q := by rw [IntKind.wrap_i64]; omega
  have hneq : (S.length == 0) = false := by simpa using hz
  rw [hT1, hT2] at G1 G2
  rw [hT1] at hl2
  rw [hT2] at hl3
  have HT1 := Lib.hid hT1
  have HT2 := Lib.hid hT2
  have HL2 := Lib.hid hl2
  have HL3 := Lib.hid hl3
  have HSK := Lib.hid hsk
  clear hd hd1 hd2 hx hw hn hh ha hb ht hz hr hsk hskm hr1 hr2 hl1 hp hq hp0 hp9 hq0 hq9 hk0 hk9 hk hST hDU hSTB hDUB hM hX hE hD hT1 hT2 hl2 hl3
  go_enter Try.func6, Try.ntmps6
  go_wp2_with fail
  refine HBS.out.mono ?_
  rintro e w' ⟨rfl, rfl⟩
  go_wp2_with fail
  refine HSP.out.mono ?_
  rintro e w1 ⟨v1, rfl, hv1, hb1⟩
  have HV1 := Lib.hid hv1
  have HB1 := Lib.hid hb1
  obtain ⟨b5, o5, c5, e5, hlt5, d0, d1⟩ := hv1.at hkl
  rw [HSK.out] at d0 d1
  obtain ⟨_, _, e5', -, hnc, -⟩ := hv1.open
  subst e5
  simp only [Value.slice.injEq] at e5'
  obtain ⟨rfl, -, rfl⟩ := e5'
  have D0 := Lib.hid d0
  have D1 := Lib.hid d1
  clear hv1 hb1 d0 d1
  go_wp2_with fail
  refine (HK.out _).mono ?_
  rintro e w' ⟨rfl, rfl⟩
  go_wp2_with fail
  refine (HP.out _).mono ?_
  rintro e w' ⟨rfl, rfl⟩
  go_wp2_with fail
  refine (HCF.out _).mono ?_
  rintro e w' ⟨rfl, rfl⟩
  go_wp2_with fail
  refine (HQ.out _).mono ?_
  rintro e w' ⟨rfl, rfl⟩
  go_wp2_with fail
  refine (HCU.out _).mono ?_
  rintro e w' ⟨rfl, rfl⟩
  go_wp2_with fail
  have HT1R : Hid (Rd w1 (.slice (some ⟨b5, o5 + k * 2, none⟩) (S.length - k) (c5 - k)) 2 T1.length (spCells T1)) := by
    have h := HV1.out.drop k (Nat.le_of_lt hkl)
    rw [HT1.out] at h
    exact h
  have HT2R : Hid (Rd w1 (.slice (some ⟨b5, o5, none⟩) k c5) 2 T2.length (spCells T2)) := by
    have h := HV1.out.take k (Nat.le_of_lt hkl)
    rw [HT2.out] at h
    exact h
  have HLI := Lib.hid (owns_below (lit1 w1 w1.heap.size w1.heap.size rfl (Nat.le_refl _)) ((Below.refl _ _).drew))
  have HBL : Hid (Below w1.heap.size w1 (w1.alloc (.cells #[] 40)).drew) := ((Below.refl _ _).alloc (Nat.le_refl _) _).drew
  have HN1 : Hid (0 + T1.length ≤ maxLen) := (by show _ ≤ _; have := HL2.out; unfold maxLen; omega)
  have HN2 : Hid ((0 + T1.length) * 16 ≤ 140737488355328) := (by show _ ≤ _; have := HL2.out; omega)
  have HN3 : Hid (T1.length + T2.length ≤ maxLen) := (by show _ ≤ _; have := HL2.out; have := HL3.out; unfold maxLen; omega)
  have HN4 : Hid ((T1.length + T2.length) * 16 ≤ 140737488355328) := (by show _ ≤ _; have := HL2.out; have := HL3.out; omega)
  have hkn : (k : Int) ≤ (S.length : Int) := by omega
  have hkc : (k : Int) ≤ (c5 : Int) := by omega
  have hck : ¬ c5 = k := by omega
  go_region_held3 (fun _ => True) (trivial)
    (first
      | (refine step_append_rd (by rfl) _ _ 24 (by rfl) w1.heap.size 40 _ 2 16 Try.underlying24 infoSp rfl (by decide) (.slice (some ⟨w1.heap.size, 0, none⟩) 0 0) 0 [] (by rfl) HLI.out _ T1.length (spCells T1) (by rfl) (HT1R.out.below HBL.out) (spCells_one T1) HN1.out HN2.out HBL.out.size ?_
         intro v3 w3 hv3 hg3
         have HB3 : Hid (Below w1.heap.size w1 w3) := below_append HBL.out HLI.out hg3 HBL.out.size
         have HO3 : Hid (w3.ownsRow w1.heap.size 40 2 v3 T1.length (spCells T1)) := by (have h := hv3; rw [Nat.zero_add, List.nil_append] at h; exact h)
         clear hv3 hg3)
      | (refine step_append_rd (by rfl) _ _ 24 (by rfl) w1.heap.size 40 _ 2 16 Try.underlying24 infoSp rfl (by decide) v3 T1.length (spCells T1) (by rfl) HO3.out _ T2.length (spCells T2) (by rfl) (HT2R.out.below HB3.out) (spCells_one T2) HN3.out HN4.out HB3.out.size ?_
         intro v4 w4 hv4 hg4
         have HB4 : Hid (Below w1.heap.size w1 w4) := below_append HB3.out HO3.out hg4 HB3.out.size
         have HO4 := Lib.hid hv4
         clear hv4 hg4))
  have HS4 := HB4.out.size
  obtain ⟨a4, c4, rfl, -, -⟩ := owns_slice HO4.out
  have HV4 := Lib.hid (HV1.out.below HB4.out)
  clear HT1R HT2R HLI HBL HN1 HN2 HO3 HB3
  go_wp2_with fail
  refine (HMO.out _ _ HV4.out).mono ?_
  rintro e w5 ⟨v5, rfl, hv5, hb5⟩
  have HV5 := Lib.hid (HV4.out.below hb5)
  have HM5 := Lib.hid hv5
  have hlt4 : ∀ j, (Value.slice a4 (T1.length + T2.length) c4).ownBlock = some j → j < w4.heap.size := fun j hj => (HO4.out.lt j hj).2
  have HB5 : Hid (Below w1.heap.size w1 w5) := Below.to HB4.out hb5 HS4
  have HO5 := Lib.hid (owns_below HO4.out hb5)
  have e0 := (HB5.out.cell (p := ⟨b5, o5 + k * 2, none⟩) hlt5).trans D0.out
  have e1 := (HB5.out.cell (p := ⟨b5, o5 + k * 2 + 1, none⟩) hlt5).trans D1.out
  have hs5 := HB5.out.size
  obtain ⟨a5, c5', rfl, -, -⟩ := owns_slice hv5
  obtain ⟨s1, s2⟩ := sk
  simp only at e0 e1
  have HLIT : Hid (∀ W : World, Rd (W.alloc (.cells (litSp (s1, s2)) 40)) (.slice (some ⟨W.heap.size, 0, none⟩) 1 1) 2 1 (spRow (s1, s2))) := fun W => Rd.lit W (litSp (s1, s2)) 40 2 1 rfl (by unfold maxLen; omega)
  have hn3 : T1.length + T2.length ≤ 6 := by have := HL2.out; have := HL3.out; omega
  clear hv5 hb5 HV4 HO4 HB4 HS4 HN3 HN4 D0 D1
  go_wp2_with (at_builtin; go_must (refine wpList_append_rdk rfl _ _ 24 rfl w1.heap.size 40 _ 2 16 Try.underlying24 infoSp rfl (by decide) (.slice a4 (T1.length + T2.length) c4) (T1.length + T2.length) (spCells T1 ++ spCells T2) rfl (owns_below HO5.out ?c0) _ 1 (spRow (s1, s2)) rfl (HLIT.out _) (spCells_one [(s1, s2)]) ?c1 ?c2 ?c3 ?_))
  case c0 => exact (Below.refl _ _).alloc (Nat.le_refl _) _
  case c1 => unfold maxLen; omega
  case c2 => omega
  case c3 => simp; omega
  intro v6 w6 hv6 hg6 hk6
  have hb6 : Below w1.heap.size w1 w6 := below_append (Below.to HB5.out ((Below.refl _ _).alloc (Nat.le_refl _) _) hs5) (owns_below HO5.out ((Below.refl _ _).alloc (Nat.le_refl _) _)) hg6 (by simp; omega)
  have hb56 : IsSps w6 (.slice a5 M.length c5') M := by
    refine IsSps.of_owns (World.ownsRow.kept (World.ownsRow.alloc HM5.out _) hg6 ?_)
    cases he : (Value.slice a5 M.length c5').ownBlock with
    | none => exact .inl rfl
    | some j =>
      right
      intro hh
      have h1 := (HM5.out.lt j he).1
      have h2 := hlt4 j hh.symm
      omega
  obtain ⟨a6, c6, rfl, -, -⟩ := owns_slice hv6
  obtain ⟨W, hW⟩ : ∃ W, W = w6.alloc (.cells #[.slice a4 (T1.length + T2.length) c4, (.slice a6 (T1.length + T2.length + 1) c6), .slice a5 M.length c5'] 24) := ⟨_, rfl⟩
  have hbW : Below w6.heap.size w6 W := by rw [hW]; exact (Below.refl _ _).alloc (Nat.le_refl _) _
  have hcw : ∀ o, W.cell? ⟨w6.heap.size, o, none⟩ = (#[.slice a4 (T1.length + T2.length) c4, (.slice a6 (T1.length + T2.length + 1) c6), .slice a5 M.length c5'] : Array Value)[o]? := by rw [hW]; exact cells_alloc w6 _ _
  have HC : Hid (∀ i : Nat, i < 3 → ∃ L vi, (InR L ∧ L.length ≤ 10 ∧ mrg L = M) ∧ W.cell? ⟨w6.heap.size, i, none⟩ = some vi ∧ IsSps W vi L) := fun i hi => by
    rcases (by omega : i = 0 ∨ i = 1 ∨ i = 2) with rfl | rfl | rfl
    · refine ⟨T1 ++ T2, _, G1.out, hcw 0, IsSps.below ?_ hbW⟩
      show Rd _ _ _ _ _
      rw [List.length_append, spCells_append]
      exact hk6
    · refine ⟨T1 ++ T2 ++ [(s1, s2)], _, G2.out, hcw 1, IsSps.below ?_ hbW⟩
      refine IsSps.of_owns (n := T1.length + T2.length + 1) (B := w1.heap.size) (e := 40) ?_
      rw [spCells_append, spCells_append, spCells_single]
      simpa using hv6
    · exact ⟨M, _, G3.out, hcw 2, hb56.below hbW⟩
  have HSZ : Hid (w6.heap.size < W.heap.size) := by show _ < _; rw [hW]; simp
  have HVW := Lib.hid ((HV1.out.below hb6).below hbW)
  have HBW := Lib.hid (Below.to HB1.out (Below.to hb6 hbW hb6.size) HB1.out.size)
  have HWW := Lib.hid hW
  have HMW := Lib.hid (hb56.below hbW)
  clear hv6 hg6 hk6 hb6 hb56 hW hbW hcw HV5 HM5 HB5 HO5 hs5 e0 e1 HLIT HV1 HB1
  go_wp2_with fail
  rw [← HWW.out]
  refine (HEX.out S _ _ G0.out HVW.out).mono ?_
  rintro e w7 ⟨rfl, hb7⟩
  have HV7 := Lib.hid (HVW.out.below hb7)
  have HB7 := Lib.hid hb7
  clear hb7
  go_wp2_with fail
  go_loopw [23] (fun i wr => ∃ j : Nat, i = .int .i64 j ∧ j ≤ 3 ∧ Hid (Below W.heap.size W wr)) (fun i _ => 3 - (intOf i).toNat)
  case atStart => exact ⟨0, rfl, by omega, HB7⟩
  case round =>
    obtain ⟨j, rfl, hj, HBR⟩ := hrel
    by_cases hj3 : j < 3
    · obtain ⟨L, vi, hL, hcell, hvi⟩ := HC.out j hj3
      have HVR := Lib.hid (HVW.out.below HBR.out)
      have HIR := Lib.hid (hvi.below HBR.out)
      have cr := (HBR.out.cell (p := ⟨w6.heap.size, j, none⟩) HSZ.out).trans hcell
      have hbk : w6.heap.size < wr.heap.size := Nat.lt_of_lt_of_le HSZ.out HBR.out.size
      have HLG := Lib.hid hL
      clear hL hcell hvi
      go_wp2_with fail
      refine (HEX.out L _ _ HLG.out HIR.out).mono ?_
      rintro e x1 ⟨rfl, hx1⟩
      have HV1 := Lib.hid (HVR.out.below hx1)
      have HI1 := Lib.hid (HIR.out.below hx1)
      have cr1 := (hx1.cell (p := ⟨w6.heap.size, j, none⟩) hbk).trans cr
      have hbk1 : w6.heap.size < x1.heap.size := Nat.lt_of_lt_of_le hbk hx1.size
      have HX1 := Lib.hid (Below.to HBR.out hx1 HBR.out.size)
      clear hx1 cr hbk HVR HIR HBR
      go_wp2_with fail
      refine (HDY.out L _ _ HLG.out HI1.out).mono ?_
      rintro e x2 ⟨rfl, hx2⟩
      have HV2 := Lib.hid (HV1.out.below hx2)
      have HI2 := Lib.hid (HI1.out.below hx2)
      have cr2 := (hx2.cell (p := ⟨w6.heap.size, j, none⟩) hbk1).trans cr1
      have hbk2 : w6.heap.size < x2.heap.size := Nat.lt_of_lt_of_le hbk1 hx2.size
      have HX2 := Lib.hid (Below.to HX1.out hx2 HX1.out.size)
      clear hx2 cr1 hbk1 HV1 HI1 HX1
      go_wp2_with fail
      refine (HDY.out S _ _ G0.out HV2.out).mono ?_
      rintro e x3 ⟨rfl, hx3⟩
      have HI3 := Lib.hid (HI2.out.below hx3)
      have cr3 := (hx3.cell (p := ⟨w6.heap.size, j, none⟩) hbk2).trans cr2
      have HX3 := Lib.hid (Below.to HX2.out hx3 HX2.out.size)
      clear hx3 cr2 hbk2 HV2 HI2 HX2
      go_wp2_with fail
      refine (HMG.out L _ _ HLG.out HI3.out).mono ?_
      rintro e x4 ⟨v9, rfl, hv9, hx4⟩
      have HX4 := Lib.hid (Below.to HX3.out hx4 HX3.out.size)
      have HSS := Lib.hid (sameSpans_eq _ _ _ _ hv9 (HMW.out.below HX4.out))
      clear hv9 hx4 HX3
      go_wp2_with fail
      refine HSS.out.mono ?_
      rintro e x5 ⟨rfl, hx5⟩
      have HX5 := Lib.hid (Below.to HX4.out hx5 HX4.out.size)
      clear hx5 HX4
      go_wp2_with fail
      go_roundw
      case rel => exact ⟨j + 1, by go_num, by omega, HX5⟩
      case measure => simp [intOf]; omega
    · go_wp2_with fail
      refine (lives_any _).mono ?_
      rintro e w99 ⟨rfl, hb99⟩
      go_wp2_with fail
      go_ret
      exact ⟨rfl, Below.to (Below.to HBW.out HBR.out HBW.out.size) hb99 (Nat.le_trans HBW.out.size HBR.out.size)⟩

end Go.Proofs.Ytkcmkpljpmfiaaa
