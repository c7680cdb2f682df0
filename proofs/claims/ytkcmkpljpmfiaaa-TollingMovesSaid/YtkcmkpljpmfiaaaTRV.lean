/-
  The law TollingMoves: moving everything moves the results; its walk.
-/
import Derived.Test.YtkcmkpljpmfiaaaGrL
import Derived.Test.YtkcmkpljpmfiaaaTRM
import Derived.Deep.RegionHeld3
import Derived.Outline
namespace Go.Proofs.Ytkcmkpljpmfiaaa
open Go.RowKit

theorem exF_shift {st due K : Int} {l : List (Int × Int)} (hv : ValSp l) : exF (st + K) (due + K) (mrg (shiftS K l)) = exF st due (mrg l) + K := by
  unfold exF
  rw [mrg_shift hv]
  by_cases h : due ≤ st
  · rw [if_pos h, if_pos (by omega)]
  · rw [if_neg h, if_neg (by omega), ext_shift]
theorem shift_take {K : Int} {l : List (Int × Int)} {k : Nat} (hk : k < l.length) : shiftS K (l.take (k + 1)) = shiftS K (l.take k) ++ [(l[k].1 + K, l[k].2 + K)] := by
  unfold shiftS
  rw [List.take_succ_eq_append_getElem hk, List.map_append]
  rfl
theorem shift_len (K : Int) (l : List (Int × Int)) : (shiftS K l).length = l.length := List.length_map _
theorem shift_get (K : Int) (l : List (Int × Int)) (i : Nat) (h : i < (shiftS K l).length) (h' : i < l.length) : (shiftS K l)[i] = (l[i].1 + K, l[i].2 + K) := List.getElem_map _

set_option maxHeartbeats 4000000 in
set_option maxRecDepth 100000 in
theorem tollingMoves_any (l : List Int) (v : Value) (n a b by_ : Int) (w : World) (hx : IsInts w v l) (hw : ∀ x ∈ l, I64 x) (hn : I64 n) (ha : I64 a) (hb : I64 b) (hby : I64 by_) :
    Calls Try.prog 9 #[v, .int .i64 n, .int .i64 a, .int .i64 b, .int .i64 by_] w fun e w' => e = .returned (.bool true) ∧ Below w.heap.size w w' := by
  have hbs := base_any n 2 hn (by unfold I64; omega) w
  have hd1 := around_lo n 60 (by omega)
  have hd2 := around_hi n 60 (by omega)
  obtain ⟨d, hd⟩ : ∃ d, baseF n 2 = d := ⟨_, rfl⟩
  have hdv : d = 739616 + around n 60 := by rw [← hd, base2]
  rw [hd] at hbs
  have hdr : 739616 ≤ d ∧ d < 739676 := by omega
  have HBS := Lib.hid hbs
  have HSP := Lib.hid (spans_any l v d w hx hw (by omega))
  obtain ⟨p, hp⟩ : ∃ p, around a 60 = p := ⟨_, rfl⟩
  obtain ⟨q, hq⟩ : ∃ q, around b 60 = q := ⟨_, rfl⟩
  obtain ⟨r, hrr⟩ : ∃ r, around by_ 10001 = r := ⟨_, rfl⟩
  have hp0 := around_lo a 60 (by omega)
  have hp9 := around_hi a 60 (by omega)
  have hq0 := around_lo b 60 (by omega)
  have hq9 := around_hi b 60 (by omega)
  have hr0 := around_lo by_ 10001 (by omega)
  have hr9 := around_hi by_ 10001 (by omega)
  have HP : Hid (∀ w, Calls Try.prog 15 #[.int .i64 a, .int .i64 60] w fun e w' => e = .returned (.int .i64 p) ∧ w = w') := fun w => by rw [← hp]; exact around_any a 60 ha (by omega) w
  have HQ : Hid (∀ w, Calls Try.prog 15 #[.int .i64 b, .int .i64 60] w fun e w' => e = .returned (.int .i64 q) ∧ w = w') := fun w => by rw [← hq]; exact around_any b 60 hb (by omega) w
  have HRR : Hid (∀ w, Calls Try.prog 15 #[.int .i64 by_, .int .i64 10001] w fun e w' => e = .returned (.int .i64 r) ∧ w = w') := fun w => by rw [← hrr]; exact around_any by_ 10001 hby (by omega) w
  rw [hp] at hp0 hp9
  rw [hq] at hq0 hq9
  rw [hrr] at hr0 hr9
  obtain ⟨K, hK⟩ : ∃ K, r - 5000 = K := ⟨_, rfl⟩
  have hK1 : -5000 ≤ K ∧ K ≤ 5000 := by omega
  obtain ⟨ST, hST⟩ : ∃ ST, d - 20 + p = ST := ⟨_, rfl⟩
  have hSTB : 739596 ≤ ST ∧ ST ≤ 739800 := by omega
  obtain ⟨DU, hDU⟩ : ∃ DU, ST + q = DU := ⟨_, rfl⟩
  have hDUB : 739596 ≤ DU ∧ DU ≤ 739900 := by omega
  obtain ⟨S, hS⟩ : ∃ S, spansF l d = S := ⟨_, rfl⟩
  have hr : InR S := by rw [← hS]; exact spansF_InR l d
  have hsl : S.length ≤ 6 := by rw [← hS]; exact spansF_len l d
  have hnear : ∀ s ∈ S, d - 20 ≤ s.1 ∧ s.2 ≤ d + 73 := by rw [← hS]; exact spans_near hdr
  rw [hS] at HSP
  obtain ⟨X, hX⟩ : ∃ X, exF ST DU (mrg S) = X := ⟨_, rfl⟩
  have hX1 := exF_from ST DU (mrg S)
  have hX2 := exF_le (st := ST) (due := DU) hr.val hnear (by omega)
  have hXS := exF_shift (st := ST) (due := DU) (K := K) hr.val
  rw [hX] at hX1 hX2 hXS
  have hXM : X ≤ 740100 := by omega
  have hMB : ∀ s ∈ mrg S, d - 20 ≤ s.1 ∧ s.2 ≤ d + 73 := mrg_in hr.val hnear
  have hMV := (mrg_law hr.val).1
  obtain ⟨M, hM⟩ : ∃ M, mrg S = M := ⟨_, rfl⟩
  have hMl : M.length ≤ 6 := by rw [← hM]; exact Nat.le_trans (mrg_len S) hsl
  have hMS := mrg_shift (k := K) hr.val
  have hvS : ValSp (shiftS K S) := shift_val hr.val
  have hBS : SpB (shiftS K S) := fun s hs => by
    obtain ⟨t, ht, rfl⟩ := List.mem_map.1 hs
    have := hnear t ht
    have := (hr t ht).2.1
    simp only
    omega
  have HE1 : Hid (∀ v w, IsSps w v S → Calls Try.prog 22 #[.int .i64 ST, .int .i64 DU, v] w fun e w' => e = .returned (.tuple #[.int .i64 X, .int .i64 0]) ∧ Below w.heap.size w w') := fun v w h => by
    have := extend_fun _ v ST DU w h (by omega) hr.B hr.val (by unfold DayB; omega) (by unfold DayB; omega)
    rw [extF_exF (by rw [hX]; omega), hX] at this
    exact this
  have HE2 : Hid (∀ v w, IsSps w v (shiftS K S) → Calls Try.prog 22 #[.int .i64 (ST + K), .int .i64 (DU + K), v] w fun e w' => e = .returned (.tuple #[.int .i64 (X + K), .int .i64 0]) ∧ Below w.heap.size w w') := fun v w h => by
    have := extend_fun _ v (ST + K) (DU + K) w h (by rw [shift_len]; omega) hBS hvS (by unfold DayB; omega) (by unfold DayB; omega)
    rw [extF_exF (by rw [hXS]; omega), hXS] at this
    exact this
  have HM1 : Hid (∀ v w, IsSps w v S → Calls Try.prog 17 #[v] w fun e w' => ∃ v', e = .returned v' ∧ IsSps w' v' M ∧ Below w.heap.size w w') := fun v w h => by rw [← hM]; exact merge_fun _ v w h (by omega) hr.B hr.val
  have HM2 : Hid (∀ v w, IsSps w v (shiftS K S) → Calls Try.prog 17 #[v] w fun e w' => ∃ v', e = .returned v' ∧ IsSps w' v' (shiftS K M) ∧ Below w.heap.size w w') := fun v w h => by rw [← hM, ← hMS]; exact merge_fun _ v w h (by rw [shift_len]; omega) hBS hvS
  rw [hM] at hMB hMV
  have HMB : Hid (∀ s ∈ M, 739500 ≤ s.1 ∧ s.1 ≤ 740000 ∧ 739500 ≤ s.2 ∧ s.2 ≤ 740000) := fun s hs => by have := hMB s hs; have := hMV s hs; omega
  have HSB : Hid (∀ s ∈ S, 739500 ≤ s.1 ∧ s.1 ≤ 740000 ∧ 739500 ≤ s.2 ∧ s.2 ≤ 740000) := fun s hs => by have := hnear s hs; have := (hr s hs).2.1; omega
  have q1 : IntKind.i64.wrap (d - 20) = d - 20 := by rw [IntKind.wrap_i64]; omega
  have q2 : IntKind.i64.wrap (d - 20 + p) = d - 20 + p := by rw [IntKind.wrap_i64]; omega
  have q2' : IntKind.i64.wrap ST = ST := by rw [IntKind.wrap_i64]; omega
  have q3 : IntKind.i64.wrap (ST + q) = ST + q := by rw [IntKind.wrap_i64]; omega
  have q3' : IntKind.i64.wrap DU = DU := by rw [IntKind.wrap_i64]; omega
  have q4 : IntKind.i64.wrap (r - 5000) = r - 5000 := by rw [IntKind.wrap_i64]; omega
  have q4' : IntKind.i64.wrap K = K := by rw [IntKind.wrap_i64]; omega
  have q5 : IntKind.i64.wrap (ST + K) = ST + K := by rw [IntKind.wrap_i64]; omega
  have q6 : IntKind.i64.wrap (DU + K) = DU + K := by rw [IntKind.wrap_i64]; omega
  have q7 : IntKind.i64.wrap (X + K) = X + K := by rw [IntKind.wrap_i64]; omega
  obtain ⟨hK2, hK3⟩ := hK1
  clear hbs hd hdv hd1 hd2 hdr hx hw hn ha hb hby hp hq hrr hp0 hp9 hq0 hq9 hr0 hr9 hSTB hDUB hS hr hnear hX hX1 hX2 hXS hXM hMB hMV hM hMS hvS hBS
  go_enter Try.func9, Try.ntmps9
  go_wp2_with fail
  refine HBS.out.mono ?_
  rintro e w' ⟨rfl, rfl⟩
  go_wp2_with fail
  refine HSP.out.mono ?_
  rintro e w1 ⟨v1, rfl, hv1, hb1⟩
  have HV1 := Lib.hid hv1
  have HB1 := Lib.hid hb1
  obtain ⟨av, cv, rfl, -, -, -⟩ := hv1.open
  clear hv1 hb1
  go_wp2_with fail
  refine (HRR.out _).mono ?_
  rintro e w' ⟨rfl, rfl⟩
  go_wp2_with fail
  go_loopw [14, 15] (fun a i wr => ∃ (k : Nat) (v14 : Value), v14 = a ∧ i = .int .i64 k ∧ k ≤ S.length ∧ Hid (wr.ownsRow w1.heap.size 40 2 v14 k (spCells (shiftS K (S.take k)))) ∧ w1.heap.size ≤ wr.heap.size ∧ Hid (Below w1.heap.size w1 wr)) (fun _ i _ => S.length - (intOf i).toNat)
  case atStart => exact ⟨0, _, rfl, rfl, Nat.zero_le _, Lib.hid (World.ownsRow_nil _ _ _ _), Nat.le_refl _, Lib.hid (Below.refl _ _)⟩
  case round =>
    obtain ⟨k, v14, rfl, rfl, hk, HOW, hsz, HBR⟩ := hrel
    by_cases hkl : k < S.length
    · obtain ⟨b5, o5, q5', e5, hlt5, z0, z1⟩ := HV1.out.at hkl
      simp only [Value.slice.injEq, true_and] at e5
      obtain ⟨rfl, -⟩ := e5
      have d0 := (HBR.out.cell (p := ⟨b5, o5 + k * 2, none⟩) hlt5).trans z0
      have d1 := (HBR.out.cell (p := ⟨b5, o5 + k * 2 + 1, none⟩) hlt5).trans z1
      have hsB := HSB.out S[k] (List.getElem_mem hkl)
      have HT : Hid (spCells (shiftS K (S.take (k + 1))) = spCells (shiftS K (S.take k)) ++ spRow (S[k].1 + K, S[k].2 + K)) := by show _ = _; rw [shift_take hkl, spCells_append, spCells_single]
      generalize S[k] = s at *
      obtain ⟨s1, s2⟩ := s
      simp only at d0 d1 z0 z1 hsB HT
      have Z0 := Lib.hid z0
      have Z1 := Lib.hid z1
      clear z0 z1
      obtain ⟨g1, g2, g3, g4⟩ := hsB
      have e1 : IntKind.i64.wrap (s1 + K) = s1 + K := by rw [IntKind.wrap_i64]; omega
      have e2 : IntKind.i64.wrap (s2 + K) = s2 + K := by rw [IntKind.wrap_i64]; omega
      obtain ⟨a14, c14, rfl, -, -⟩ := owns_slice HOW.out
      have HLIT : Hid (∀ W : World, Rd (W.alloc (.cells (litSp (s1 + K, s2 + K)) 40)) (.slice (some ⟨W.heap.size, 0, none⟩) 1 1) 2 1 (spRow (s1 + K, s2 + K))) := fun W => Rd.lit W (litSp (s1 + K, s2 + K)) 40 2 1 rfl (by unfold maxLen; omega)
      have HN1 : Hid (k + 1 ≤ maxLen) := (by show _ ≤ _; unfold maxLen; omega)
      have HN2 : Hid ((k + 1) * 16 ≤ 140737488355328) := (by show _ ≤ _; omega)
      have HBD : Hid (Below wr.heap.size wr (wr.drew.alloc (.cells (litSp (s1 + K, s2 + K)) 40))) := ((Below.refl _ _).drew).alloc (by simp) _
      go_wp2_with fail
      go_region_held3 (fun w' => w'.cell? ⟨b5, o5 + k * 2, none⟩ = some (.int .i64 s1) ∧ w'.cell? ⟨b5, o5 + k * 2 + 1, none⟩ = some (.int .i64 s2))
        (first
          | exact ⟨m1, m2⟩
          | go_keep)
        (first
          | (refine step_append_rd (by rfl) _ _ 24 (by rfl) w1.heap.size 40 _ 2 16 Try.underlying24 infoSp rfl (by decide) (.slice a14 k c14) k (spCells (shiftS K (S.take k))) (by rfl) (owns_below HOW.out HBD.out) _ 1 (spRow (s1 + K, s2 + K)) (by rfl) (HLIT.out _) (spCells_one [(s1 + K, s2 + K)]) HN1.out HN2.out (Nat.le_trans hsz HBD.out.size) ?_
             intro v8 w8 hv8 hg8
             have hb8 : Below w1.heap.size w1 w8 := below_append (Below.to HBR.out HBD.out hsz) (owns_below HOW.out HBD.out) hg8 (Nat.le_trans hsz HBD.out.size)
             have m1 : w8.cell? ⟨b5, o5 + k * 2, none⟩ = some (.int .i64 s1) := (hb8.cell (p := ⟨b5, o5 + k * 2, none⟩) hlt5).trans Z0.out
             have m2 : w8.cell? ⟨b5, o5 + k * 2 + 1, none⟩ = some (.int .i64 s2) := (hb8.cell (p := ⟨b5, o5 + k * 2 + 1, none⟩) hlt5).trans Z1.out
             have HB8 := Lib.hid hb8
             have HV8 := Lib.hid hv8
             have hs8 := hb8.size
             clear hv8 hg8 hb8))
      have HO8 : Hid (w8.ownsRow w1.heap.size 40 2 v8 (k + 1) (spCells (shiftS K (S.take (k + 1))))) := by
        show World.ownsRow _ _ _ _ _ _ _
        rw [HT.out]
        exact HV8.out
      clear HOW HBR HV8 m1 m2
      go_wp2_with fail
      go_roundw
      case rel => exact ⟨k + 1, _, rfl, by go_num, by omega, HO8, hs8, HB8⟩
      case measure => simp [intOf]; omega
    · obtain rfl : k = S.length := by omega
      have HI2 : Hid (IsSps wr v14 (shiftS K S)) := by
        show IsSps _ _ _
        have h := HOW.out
        rw [List.take_length] at h
        exact IsSps.of_owns h
      have HV2 := Lib.hid (HV1.out.below HBR.out)
      have HB2 := Lib.hid (Below.to HB1.out HBR.out HB1.out.size)
      clear HOW HBR hsz
      go_wp2_with fail
      refine (HP.out _).mono ?_
      rintro e w' ⟨rfl, rfl⟩
      go_wp2_with fail
      refine (HQ.out _).mono ?_
      rintro e w' ⟨rfl, rfl⟩
      go_wp2_with fail
      refine (HE1.out _ _ HV2.out).mono ?_
      rintro e w3 ⟨rfl, hb3⟩
      have HV3 := Lib.hid (HV2.out.below hb3)
      have HI3 := Lib.hid (HI2.out.below hb3)
      have HB3 := Lib.hid (Below.to HB2.out hb3 HB2.out.size)
      clear hb3 HV2 HI2 HB2
      go_wp2_with fail
      refine (HE2.out _ _ HI3.out).mono ?_
      rintro e w4 ⟨rfl, hb4⟩
      have HV4 := Lib.hid (HV3.out.below hb4)
      have HI4 := Lib.hid (HI3.out.below hb4)
      have HB4 := Lib.hid (Below.to HB3.out hb4 HB3.out.size)
      clear hb4 HV3 HI3 HB3
      go_wp2_with fail
      refine (HM1.out _ _ HV4.out).mono ?_
      rintro e w5 ⟨v5, rfl, hv5, hb5⟩
      have HI5 := Lib.hid (HI4.out.below hb5)
      have HB5 := Lib.hid (Below.to HB4.out hb5 HB4.out.size)
      clear HV4 HI4 HB4
      go_wp2_with fail
      refine (HM2.out _ _ HI5.out).mono ?_
      rintro e w6 ⟨v6, rfl, hv6, hb6⟩
      have HA6 := Lib.hid (hv5.below hb6)
      have HO6 := Lib.hid hv6
      have HB6 := Lib.hid (Below.to HB5.out hb6 HB5.out.size)
      obtain ⟨a5, c5, rfl, -, -, -⟩ := hv5.open
      obtain ⟨a6, c6, e6, -, -, -⟩ := hv6.open
      rw [shift_len] at e6
      subst e6
      clear hv5 hb5 hv6 hb6 HI5 HB5
      go_wp2_with fail
      go_loopw [24] (fun i wr => ∃ k : Nat, i = .int .i64 k ∧ k ≤ M.length ∧ Hid (Below w6.heap.size w6 wr)) (fun i _ => M.length - (intOf i).toNat)
      case atStart => exact ⟨0, rfl, Nat.zero_le _, Lib.hid (Below.refl _ _)⟩
      case round =>
        obtain ⟨k, rfl, hk, HBR⟩ := hrel
        by_cases hkm : k < M.length
        · obtain ⟨b7, o7, q7', e7, hlt7, d0, d1⟩ := (HA6.out.below HBR.out).at hkm
          simp only [Value.slice.injEq, true_and] at e7
          obtain ⟨rfl, -⟩ := e7
          obtain ⟨b8, o8, q8', e8, hlt8, f0, f1⟩ := (HO6.out.below HBR.out).at (k := k) (by rw [shift_len]; exact hkm)
          simp only [Value.slice.injEq] at e8
          obtain ⟨rfl, -, -⟩ := e8
          rw [shift_get K M k _ hkm] at f0 f1
          have hsB := HMB.out M[k] (List.getElem_mem hkm)
          generalize M[k] = s at *
          obtain ⟨s1, s2⟩ := s
          simp only at d0 d1 f0 f1 hsB
          obtain ⟨g1, g2, g3, g4⟩ := hsB
          have e1 : IntKind.i64.wrap (s1 + K) = s1 + K := by rw [IntKind.wrap_i64]; omega
          have e2 : IntKind.i64.wrap (s2 + K) = s2 + K := by rw [IntKind.wrap_i64]; omega
          go_wp2_with fail
          go_quiet (fail)
          all_goals
            have HB9 := Lib.hid (below_drewN HBR.out nq)
            go_wp2_with fail
            go_roundw
            case rel => exact ⟨k + 1, by go_num, by omega, HB9⟩
            case measure => simp [intOf]; omega
        · go_wp2_with fail
          refine (lives_any _).mono ?_
          rintro e w99 ⟨rfl, hb99⟩
          go_wp2_with fail
          go_ret
          exact ⟨rfl, Below.to (Below.to HB6.out HBR.out HB6.out.size) hb99 (Nat.le_trans HB6.out.size HBR.out.size)⟩

end Go.Proofs.Ytkcmkpljpmfiaaa
