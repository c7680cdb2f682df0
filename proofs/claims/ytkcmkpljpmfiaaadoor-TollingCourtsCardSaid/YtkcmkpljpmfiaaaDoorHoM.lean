/-
  Package holiday: Between for one day.
-/
import Derived.Test.YtkcmkpljpmfiaaaDoorHoL
namespace Go.Proofs.YtkcmkpljpmfiaaaDoor
open Go.RowKit

theorem zb1 : (Tryd.prog.info? 3).map (fun i => (i.zero, i.size, i.bytes)) = some (some (.int .i64 0), 1, 8) := by kernel_rfl

set_option maxHeartbeats 2000000 in
set_option maxRecDepth 100000 in
theorem between_any (hs : List Hol) (v : Value) (d : Int) (w : World) (hv : IsHos w v hs) (hi : ∀ h ∈ hs, HolIn h) (hl : hs.length ≤ 10) (hT : Tabs w) (hd : 739500 ≤ d ∧ d ≤ 740000) :
    Calls Tryd.prog 33 #[v, .int .i64 d, .int .i64 d] w fun e w' => (∃ a n cap, e = .returned (.slice a n cap) ∧ n ≤ 1000 ∧ (0 < n ↔ isF hs d = true)) ∧ Below w.heap.size w w' := by
  have hyr := yrF_in hd
  have HI3 := Lib.hid (isF_three hs d)
  have HOY := Lib.hid (fun y w7 (hb : Below w.heap.size w w7) (hy : 2024 ≤ y ∧ y ≤ 2030) => ofYear_any hs v y w7 (hv.below hb) hi hl (hT.below hb) hy)
  have HDT := Lib.hid (fun w7 => of_any d w7 (by omega))
  have HWI := Lib.hid within_any
  obtain ⟨Y, hY⟩ : ∃ Y, yrF d = Y := ⟨_, rfl⟩
  rw [hY] at hyr HI3 HDT
  obtain ⟨hY1, hY2⟩ := hyr
  obtain ⟨hd1, hd2⟩ := hd
  have hmx : max d 0 = d := by omega
  have hmn : min d 3652058 = d := by omega
  obtain ⟨av, cv, rfl, -, -, -⟩ := hv.open
  clear hv hi hT hY
  go_enter Tryd.func33, Tryd.ntmps33
  go_wp2_with fail
  refine (HDT.out w).mono ?_
  rintro e w1 ⟨⟨m1, k1, rfl⟩, hb1⟩
  have HB1 := Lib.hid hb1
  clear hb1
  go_wp2_with fail
  refine (HDT.out _).mono ?_
  rintro e w2 ⟨⟨m2, k2, rfl⟩, hb2⟩
  have c7 : w2.cell? ⟨w1.heap.size, 0, none⟩ = some (.int .i64 Y) := by
    have h1 : w2.heap[w1.heap.size]? = some (.cells #[.int .i64 Y, .int .i64 m1, .int .i64 k1] 83 (0, 0)) := (hb2.block _ (by simp)).trans (alloc_new _ _)
    simp [World.cell?, h1]
  have hlt2 : w1.heap.size < w2.heap.size := Nat.lt_of_lt_of_le (by simp) hb2.size
  have hbw2 : Below w.heap.size w w2 := Below.to (Below.to HB1.out ((Below.refl _ _).alloc (Nat.le_refl _) _) HB1.out.size) hb2 (Nat.le_trans HB1.out.size (by simp))
  obtain ⟨W3, hW3⟩ : ∃ W, W = w2.alloc (.cells #[.int .i64 Y, .int .i64 m2, .int .i64 k2] 83) := ⟨_, rfl⟩
  obtain ⟨Q, hQ⟩ : ∃ Q, Q = w2.heap.size := ⟨_, rfl⟩
  have hrQ : W3.heap[Q]? = some (.cells #[.int .i64 Y, .int .i64 m2, .int .i64 k2] 83 (0, 0)) := by rw [hW3, hQ]; exact alloc_new _ _
  have hQlt : Q < W3.heap.size := (Array.getElem?_eq_some_iff.1 hrQ).1
  have hB3 : Below w.heap.size w W3 := by rw [hW3]; exact Below.to hbw2 ((Below.refl _ _).alloc (Nat.le_refl _) _) hbw2.size
  have HCQ : Hid (∀ w', Below W3.heap.size W3 w' → w'.cell? ⟨Q, 0, none⟩ = some (.int .i64 Y)) := fun w' hb => by
    have h2 := (hb.block Q hQlt).trans hrQ
    simp [World.cell?, h2]
  have c7' : W3.cell? ⟨w1.heap.size, 0, none⟩ = some (.int .i64 Y) := by
    rw [hW3]; exact (World.cell?_alloc_lt _ _ _ hlt2).trans c7
  have HB3 := Lib.hid hB3
  have HW3 := Lib.hid hW3
  have HQ := Lib.hid hQ
  have c7c : (w2.alloc (.cells #[.int .i64 Y, .int .i64 m2, .int .i64 k2] 83)).cell? ⟨w1.heap.size, 0, none⟩ = some (.int .i64 Y) := (World.cell?_alloc_lt _ _ _ hlt2).trans c7
  have hq1 : IntKind.i64.wrap (Y - 1) = Y - 1 := wrI (by omega)
  clear hb2 hbw2 hB3 hrQ hQlt hW3 hQ hlt2 HB1 c7 c7'
  go_wp2_with fail
  rw [← HW3.out, ← HQ.out]
  go_loopw [11, 12] (fun o yv wr => ∃ (j c : Nat), yv = .int .i64 (Y - 1 + (j : Int)) ∧ j ≤ 3 ∧ c ≤ 10 * j ∧ Hid (0 < c ↔ ((List.range j).any fun i => hasF hs d (Y - 1 + (i : Nat))) = true) ∧ Hid (wr.ownsRow W3.heap.size 3 1 o c (ints (List.replicate c d))) ∧ W3.heap.size ≤ wr.heap.size ∧ Hid (Below W3.heap.size W3 wr)) (fun _ yv _ => (Y + 2 - intOf yv).toNat)
  case atStart => exact ⟨0, 0, by simp, by omega, by omega, (by show _ ↔ _; simp), Lib.hid (World.ownsRow_nil _ _ _ _), Nat.le_refl _, Lib.hid (Below.refl _ _)⟩
  case round =>
    obtain ⟨j, c, rfl, hj, hc, HCN, HO, hsz, HB⟩ := hrel
    have cQ := HCQ.out wr HB.out
    by_cases hlt : j < 3
    · have hle : Y - 1 + (j : Int) ≤ Y + 1 := by omega
      have HOF := Lib.hid (HOY.out (Y - 1 + (j : Int)) wr (Below.to HB3.out HB.out HB3.out.size) (by omega))
      go_wp2_with fail
      refine HOF.out.mono ?_
      rintro e w4 ⟨v4, rfl, l', hp, hv4, hb4⟩
      have hll : l'.length ≤ 10 := by
        have h1 := ofF_len hs (Y - 1 + (j : Int)) 0
        rw [hp.length_eq]; omega
      have hany : Hid (l'.any (fun x => x.1 == d) = hasF hs d (Y - 1 + (j : Int))) := any_perm _ hp
      obtain ⟨a4, c4, rfl, -, -⟩ := owns_slice hv4
      have HV4 := Lib.hid hv4
      have HO4 : Hid (w4.ownsRow W3.heap.size 3 1 u11 c (ints (List.replicate c d))) := owns_below HO.out hb4
      have HB4 := Lib.hid (Below.to HB.out hb4 HB.out.size)
      clear hp hv4 hb4 HO HOF HB cQ
      obtain ⟨wo, rfl⟩ : ∃ wo, wo = wr := ⟨_, rfl⟩
      go_wp2_with fail
      go_loopw [11, 46] (fun o i wr => ∃ (k c2 : Nat), i = .int .i64 k ∧ k ≤ l'.length ∧ c2 ≤ 10 * j + k ∧ Hid (0 < c2 ↔ (0 < c ∨ (l'.take k).any (fun x => x.1 == d) = true)) ∧ Hid (wr.ownsRow W3.heap.size 3 1 o c2 (ints (List.replicate c2 d))) ∧ Hid (wr.ownsRow wo.heap.size 89 2 (.slice a4 l'.length c4) l'.length (enC spRow l')) ∧ W3.heap.size ≤ wr.heap.size ∧ Hid (Below W3.heap.size W3 wr)) (fun _ i _ => l'.length - (intOf i).toNat)
      case atStart => exact ⟨0, c, rfl, Nat.zero_le _, by omega, (by show _ ↔ _; simp), HO4, HV4, HB4.out.size, HB4⟩
      case round =>
        obtain ⟨k, c2, rfl, hk, hc2, HC2, HO2, HV2, hsq, HBQ⟩ := hrel
        by_cases hkl : (k : Int) < (l'.length : Int)
        · have hkn : k < l'.length := by omega
          obtain ⟨b5, o5, q5, e5, hlt5, c0, c1'⟩ := (IsSps.of_owns (l := l') HV2.out).at hkn
          simp only [Value.slice.injEq, true_and] at e5
          obtain ⟨rfl, -⟩ := e5
          have HTK : Hid (l'.take (k + 1) = l'.take k ++ [l'[k]]) := List.take_succ_eq_append_getElem hkn
          obtain ⟨x, hx⟩ : ∃ x, l'[k] = x := ⟨_, rfl⟩
          rw [hx] at c0 c1' HTK
          obtain ⟨x1, x2⟩ := x
          simp only at c0 c1'
          have HWX := Lib.hid (fun w7 => HWI.out x1 d d w7)
          obtain ⟨bx, hbx⟩ : ∃ b, decide (d ≤ x1 ∧ x1 ≤ d) = b := ⟨_, rfl⟩
          rw [hbx] at HWX
          clear hx
          have hbl : Below wr.heap.size wr (wr.alloc (.cells #[.int .i64 x1, .int .i64 x2] 89)) := (Below.refl _ _).alloc (Nat.le_refl _) _
          have HB6 := Lib.hid (Below.to HBQ.out hbl HBQ.out.size)
          have HO6 := Lib.hid (owns_below HO2.out hbl)
          have HV6 := Lib.hid (owns_below HV2.out hbl)
          cases bx
          · have hne : Hid (¬ x1 = d) := by
              show ¬ _
              intro h
              rw [decide_eq_false_iff_not] at hbx
              omega
            have HC3 : Hid (0 < c2 ↔ (0 < c ∨ (l'.take (k + 1)).any (fun x => x.1 == d) = true)) := by
              show _ ↔ _
              rw [HTK.out, HC2.out]
              simp [hne.out]
            clear hbx hbl HO2 HV2 HBQ HC2 HTK
            go_wp2_with (go_at_call 32; refine (HWX.out _).mono ?_; rintro e w9 ⟨rfl, h9⟩; obtain rfl := h9.symm)
            go_roundw
            case rel => exact ⟨k + 1, c2, by go_num, by omega, by omega, HC3, HO6, HV6, HB6.out.size, HB6⟩
            case measure => simp [intOf]; omega
          · have hxd : x1 = d := by
              rw [decide_eq_true_eq] at hbx
              omega
            subst hxd
            have HC3 : Hid (0 < c2 + 1 ↔ (0 < c ∨ (l'.take (k + 1)).any (fun x => x.1 == x1) = true)) := by
              show _ ↔ _
              rw [HTK.out]
              simp
            have HL6 : Hid (Rd ((wr.alloc (.cells #[.int .i64 x1, .int .i64 x2] 89)).alloc (.cells #[.int .i64 x1] 3)) (.slice (some ⟨wr.heap.size + 1, 0, none⟩) 1 1) 1 1 [.int .i64 x1]) := by
              have h := Rd.lit (wr.alloc (.cells #[.int .i64 x1, .int .i64 x2] 89)) #[.int .i64 x1] 3 1 1 rfl (by unfold maxLen; omega)
              rw [World.size_alloc] at h
              exact h
            have hbl2 : Below (wr.alloc (.cells #[.int .i64 x1, .int .i64 x2] 89)).heap.size (wr.alloc (.cells #[.int .i64 x1, .int .i64 x2] 89)) ((wr.alloc (.cells #[.int .i64 x1, .int .i64 x2] 89)).alloc (.cells #[.int .i64 x1] 3)) := (Below.refl _ _).alloc (Nat.le_refl _) _
            have HB7 := Lib.hid (Below.to HB6.out hbl2 HB6.out.size)
            have HO7 := Lib.hid (owns_below HO6.out hbl2)
            have HV7 := Lib.hid (owns_below HV6.out hbl2)
            clear hbx hbl HO2 HV2 HBQ HC2 HTK hbl2 HO6 HV6 HB6
            go_wp2_with (first
              | (go_at_call 32; refine (HWX.out _).mono ?_; rintro e w9 ⟨rfl, h9⟩; obtain rfl := h9.symm)
              | (at_builtin; refine wpList_append_rd rfl _ _ 22 rfl W3.heap.size 3 _ 1 8 Tryd.underlying22 zb1 rfl (by decide) u11 c2 (ints (List.replicate c2 x1)) rfl HO7.out _ 1 [.int .i64 x1] rfl HL6.out (ints_one [x1]) ?b1 ?b2 ?b3 ?_))
            case b1 => unfold maxLen; omega
            case b2 => omega
            case b3 => exact HB7.out.size
            intro v8 w8 hv8 hg8
            have hap := owns_apart HV7.out HO7.out (by decide)
            have HV8 := Lib.hid (HV7.out.kept hg8 hap)
            have HB8 := Lib.hid (below_append HB7.out HO7.out hg8 HB7.out.size)
            have HO8 : Hid (w8.ownsRow W3.heap.size 3 1 v8 (c2 + 1) (ints (List.replicate (c2 + 1) x1))) := by
              show World.ownsRow _ _ _ _ _ _ _
              rw [List.replicate_succ', show ints (List.replicate c2 x1 ++ [x1]) = ints (List.replicate c2 x1) ++ [.int .i64 x1] by simp [ints]]
              exact hv8
            clear hv8 hg8 hap HO7 HB7 HL6 HV7
            go_wp2_with fail
            go_roundw
            case rel => exact ⟨k + 1, c2 + 1, by go_num, by omega, by omega, HC3, HO8, HV8, HB8.out.size, HB8⟩
            case measure => simp [intOf]; omega
        · have hke : k = l'.length := by omega
          have HC3 : Hid (0 < c2 ↔ ((List.range (j + 1)).any fun i => hasF hs d (Y - 1 + (i : Nat))) = true) := by
            have h1 := HC2.out
            rw [hke, List.take_length, hany.out, HCN.out] at h1
            show _ ↔ _
            rw [h1, List.range_succ]
            simp
          have cQ2 := HCQ.out wr HBQ.out
          have hjy : IntKind.i64.wrap (Y - 1 + (j : Int) + 1) = Y - 1 + ((j + 1 : Nat) : Int) := by rw [wrI (by omega)]; omega
          clear HC2 HCN HV2
          go_wp2_with fail
          go_roundw
          case rel => exact ⟨j + 1, c2, by go_num, by omega, by omega, HC3, HO2, hsq, HBQ⟩
          case measure => simp [intOf]; omega
    · obtain rfl : j = 3 := by omega
      have hle : ¬ Y - 1 + ((3 : Nat) : Int) ≤ Y + 1 := by omega
      have HCI : Hid (0 < c ↔ isF hs d = true) := by show _ ↔ _; rw [HI3.out]; exact HCN.out
      have HLT : Hid (∀ b, u11.ownBlock = some b → W3.heap.size ≤ b) := fun b hb => (HO.out.lt b hb).1
      have HSO := Lib.hid (sortC_any _ _ u11 c d wr HO.out (by omega))
      have HBW := Lib.hid (Below.to HB3.out HB.out HB3.out.size)
      clear HO HB
      go_wp2_with fail
      refine HSO.out.mono ?_
      rintro e w8 ⟨rfl, ho, hg⟩
      have HBG := Lib.hid (HBW.out.grown hg HBW.out.size (fun b hb => Nat.le_trans HB3.out.size (HLT.out b hb)))
      have HCO := Lib.hid (compC_any _ _ u11 c d w8 ho (by omega))
      clear ho hg HSO
      go_wp2_with fail
      refine HCO.out.mono ?_
      rintro e w9 ⟨⟨a9, n9, c9, rfl, hn9, hi9⟩, hg9⟩
      have HBH := Lib.hid (HBG.out.grown hg9 HBG.out.size (fun b hb => Nat.le_trans HB3.out.size (HLT.out b hb)))
      have HN : Hid (n9 ≤ 1000 ∧ (0 < n9 ↔ isF hs d = true)) := ⟨hn9, hi9.trans HCI.out⟩
      clear hg9 HCO
      go_wp2_with fail
      go_ret
      exact ⟨⟨_, _, _, rfl, HN.out⟩, HBH.out⟩

end Go.Proofs.YtkcmkpljpmfiaaaDoor
