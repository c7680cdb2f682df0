/-
  The law ForkGrows: its walk.
-/
import Derived.Test.YtgfnelpfoegdaaaFG1
namespace Go.Proofs.Ytgfnelpfoegdaaa
open Go.RowKit

/-- A slice of operations, as the law reads it. -/
def IsOps (w : World) (v : Value) (ops : List (Int × Int × Int)) : Prop :=
  ∃ a cap, v = .slice a ops.length cap ∧ ops.length ≤ maxLen ∧ ∀ i (h : i < ops.length), ∃ b off, a = some ⟨b, off, none⟩ ∧ b < w.heap.size ∧
    w.cell? ⟨b, off + i * 3, none⟩ = some (.int .i64 ops[i].1) ∧ w.cell? ⟨b, off + i * 3 + 1, none⟩ = some (.int .i64 ops[i].2.1) ∧ w.cell? ⟨b, off + i * 3 + 2, none⟩ = some (.int .i64 ops[i].2.2) ∧
    I64 ops[i].1 ∧ I64 ops[i].2.1

theorem begins_any (xs zs : List Int) (v u : Value) (w : World) (hx : IsInts w v (xs ++ zs)) (hy : IsInts w u xs) :
    Calls Try.prog 27 #[v, u] w fun e w' => e = .returned (.bool true) ∧ Below w.heap.size w w' := by
  have HX := Lib.hid hx
  have HY := Lib.hid hy
  obtain ⟨a1, cap1, rfl, hm1, hc1, -⟩ := hx.open
  obtain ⟨a2, cap2, rfl, hm2, hc2, -⟩ := hy.open
  unfold maxLen at hm1 hm2
  have HT : Hid (IsInts w (.slice a1 xs.length cap1) xs) := by
    have h := IsInts.take hx xs.length (by simp)
    rw [List.take_left'  rfl] at h
    exact h
  clear hx hy
  have hlen : (xs.length : Int) ≤ ((xs ++ zs).length : Int) := by rw [List.length_append]; omega
  have hcc : xs.length ≤ cap1 := by rw [List.length_append] at hc1; omega
  have hge : decide ((xs.length : Int) ≤ ((xs ++ zs).length : Int)) = true := by simpa using hlen
  generalize (xs ++ zs).length = n at *
  go_enter Try.func27, Try.ntmps27
  go_wp2_with fail
  refine (same_eq _ _ _ _ HT.out HY.out).mono ?_
  rintro e w1 ⟨rfl, n1, rfl⟩
  go_wp2_with fail
  go_ret
  exact ⟨rfl, below_drewN (Below.refl _ _) _⟩

set_option maxHeartbeats 4000000 in
set_option maxRecDepth 100000 in
theorem forkGrows_any (xs : List Int) (v : Value) (ops : List (Int × Int × Int)) (u : Value) (w : World) (hx : IsInts w v xs) (hw : ∀ x ∈ xs, I64 x) (ho : IsOps w u ops) :
    Calls Try.prog 5 #[v, u] w fun e w' => e = .returned (.bool true) ∧ Below w.heap.size w w' := by
  have HBR := Lib.hid (branches_any xs v w hx hw)
  obtain ⟨a2, cap2, rfl, hm2, hops⟩ := ho
  unfold maxLen at hm2
  have HOP := Lib.hid hops
  clear hx hw hops
  go_enter Try.func5, Try.ntmps5
  go_wp2_with fail
  refine HBR.out.mono ?_
  rintro e w0 ⟨v0, rfl, l0, hl0, hg, hb0⟩
  have HL0 := Lib.hid hl0
  have HG0 := Lib.hid hg.1
  have HB0 := Lib.hid hb0
  clear hl0 hg hb0 HBR
  go_wp2_with fail
  go_loopw [5, 6] (fun a i wr => ∃ (k : Nat) (l : List Br) (vl : Value), vl = a ∧ i = .int .i64 k ∧ k ≤ 40 ∧ Hid (IsBrs wr vl l) ∧ Hid (Good l) ∧ w.heap.size ≤ wr.heap.size ∧ Hid (Below w.heap.size w wr)) (fun _ i _ => 50 - (intOf i).toNat)
  case atStart => exact ⟨0, l0, _, rfl, rfl, by omega, HL0, HG0, HB0.out.size, HB0⟩
  case round =>
    obtain ⟨k, l, vl, rfl, rfl, hk, HL, HG, hsz, HB⟩ := hrel
    obtain ⟨al, cl, rfl, -, -, -⟩ := HL.out.open
    have hl256 := HG.out.1
    by_cases hkl : (k : Int) < (ops.length : Int)
    · by_cases hk40 : (k : Int) < 40
      · have hkn : k < ops.length := by omega
        obtain ⟨bb, off, rfl, hbw, o0, o1, o2, hK, hBB⟩ := HOP.out k hkn
        generalize ops[k].1 = K at *
        generalize ops[k].2.1 = B at *
        generalize ops[k].2.2 = N at *
        have O0 := Lib.hid o0
        have O1 := Lib.hid o1
        have O2 := Lib.hid o2
        have p0 := (HB.out.cell hbw).trans o0
        have p1 := (HB.out.cell hbw).trans o1
        have p2 := (HB.out.cell hbw).trans o2
        clear o0 o1 o2
        have HST := Lib.hid (step_any l _ K B N wr HL.out HG.out hK hBB)
        obtain ⟨j, hj⟩ : ∃ j, around K 10 = j := ⟨_, rfl⟩
        obtain ⟨t, ht⟩ : ∃ t, around B ((l.length : Int) + 1) = t := ⟨_, rfl⟩
        have hj0 : 0 ≤ j := by rw [← hj]; exact around_lo K 10 (by omega)
        have HAK : Hid (∀ w, Calls Try.prog 25 #[.int .i64 K, .int .i64 10] w fun e w' => e = .returned (.int .i64 j) ∧ w = w') := fun w => by rw [← hj]; exact around_any K 10 hK (by omega) w
        have HAB : Hid (∀ w, Calls Try.prog 25 #[.int .i64 B, .int .i64 ((l.length : Int) + 1)] w fun e w' => e = .returned (.int .i64 t) ∧ w = w') := fun w => by rw [← ht]; exact around_any B ((l.length : Int) + 1) hBB (by omega) w
        rw [hj, ht] at HST
        have hgm := stepF_good (j := j) (b := t) (n := N) HG.out
        have hlm := stepF_len (j := j) (b := t) (n := N) HG.out
        have hev := step_events (j := j) (b := t) (n := N) HG.out hj0
        generalize stepF l j t N = r at *
        obtain ⟨m, e1⟩ := r
        simp only at hgm hlm hev
        have HGM := Lib.hid hgm
        have HEV := Lib.hid hev
        have hm256 := HGM.out.1
        have hwl : IntKind.i64.wrap ((l.length : Int) + 1) = (l.length : Int) + 1 := by rw [IntKind.wrap_i64]; omega
        have hlm2 : (l.length : Int) ≤ (m.length : Int) := by omega
        clear hj ht hgm hev hK hBB
        go_wp2_with fail
        refine Calls.mono HST.out ?_
        rintro e w4 ⟨v4, rfl, hv4, hb4⟩
        obtain ⟨a4, c4, rfl, -, -, -⟩ := hv4.open
        have HV4 := Lib.hid hv4
        have HL4 := Lib.hid (HL.out.below hb4)
        have HB4 := Lib.hid (Below.to HB.out hb4 hsz)
        clear hv4 hb4 HST
        go_wp2_with fail
        refine (forkCheck m _ _ HV4.out (by omega) HGM.out.owns).mono ?_
        rintro e w5 ⟨rfl, hb5⟩
        rw [checkF_ok HGM.out]
        have HV5 := Lib.hid (HV4.out.below hb5)
        have HL5 := Lib.hid (HL4.out.below hb5)
        have HB5 := Lib.hid (Below.to HB4.out hb5 HB4.out.size)
        have q0 := (HB5.out.cell hbw).trans O0.out
        have q1 := (HB5.out.cell hbw).trans O1.out
        clear hb5 p0 p1 p2
        go_wp2_with fail
        refine (HAK.out _).mono ?_
        rintro e w' ⟨rfl, rfl⟩
        go_wp2_with fail
        refine (HAB.out _).mono ?_
        rintro e w' ⟨rfl, rfl⟩
        clear q0 q1 HAK HAB
        go_wp2_with fail
        go_loopw [11] (fun i wq => ∃ c : Nat, i = .int .i64 c ∧ c ≤ l.length ∧ w5.heap.size ≤ wq.heap.size ∧ Hid (Below w5.heap.size w5 wq)) (fun i _ => l.length + 1 - (intOf i).toNat)
        case atStart => exact ⟨0, rfl, by omega, Nat.le_refl _, Lib.hid (Below.refl _ _)⟩
        case round =>
          obtain ⟨c, rfl, hc, hszq, HQ⟩ := hrel
          have HLQ := Lib.hid (HL5.out.below HQ.out)
          have HVQ := Lib.hid (HV5.out.below HQ.out)
          by_cases hcl : (c : Int) < (l.length : Int)
          · have hcn : c < l.length := by omega
            obtain ⟨more, hmo, hsame⟩ := HEV.out c hcn
            have HMO : Hid (eventsZ m (c : Int) = eventsZ l (c : Int) ++ more) := by show _ = _; rw [eventsZ_nat, eventsZ_nat]; exact hmo
            have HML := Lib.hid (eventsZ_le HGM.out (c : Int))
            clear hmo
            obtain ⟨A, hA⟩ : ∃ A, eventsZ l (c : Int) = A := ⟨_, rfl⟩
            rw [hA] at HMO
            have HA := Lib.hid hA
            clear hA
            go_wp2_with fail
            refine (forkEventsZ l _ c _ HLQ.out HG.out).mono ?_
            rintro e w6 ⟨v6, rfl, hv6, hb6⟩
            rw [HA.out] at hv6
            have HV6 := Lib.hid hv6
            have HB6 := Lib.hid (Below.to HQ.out hb6 hszq)
            have HM6 := Lib.hid (HVQ.out.below hb6)
            clear hv6 hb6
            go_wp2_with fail
            refine (forkEventsZ m _ c w6 HM6.out HGM.out).mono ?_
            rintro e w7 ⟨v7, rfl, hv7, hb7⟩
            rw [HMO.out] at hv7
            obtain ⟨a6, q6, rfl, hm6, -, -⟩ := HV6.out.open
            obtain ⟨a7, q7, rfl, hm7, -, -⟩ := hv7.open
            unfold maxLen at hm6 hm7
            have HV7 := Lib.hid hv7
            have HU7 := Lib.hid (HV6.out.below hb7)
            have HB7 := Lib.hid (Below.to HB6.out hb7 HB6.out.size)
            have HBG : Hid (∀ w, IsInts w (.slice a7 (A ++ more).length q7) (A ++ more) → IsInts w (.slice a6 A.length q6) A → Calls Try.prog 27 #[.slice a7 (A ++ more).length q7, .slice a6 A.length q6] w fun e w' => e = .returned (.bool true) ∧ Below w.heap.size w w') := fun w h1 h2 => begins_any A more _ _ w h1 h2
            have hnl : more = [] → (A ++ more).length = A.length := fun h => by rw [h]; simp
            clear hv7 hb7
            obtain ⟨n7, hn7⟩ : ∃ n7, (A ++ more).length = n7 := ⟨_, rfl⟩
            rw [hn7] at HBG hnl hm7
            have HV8 : Hid (IsInts w7 (.slice a7 n7 q7) (A ++ more)) := by rw [← hn7]; exact HV7
            rw [hn7]
            clear hn7 HV7
            by_cases he : e1 = 0
            · have he2 : (e1 != 0) = false := by simpa using he
              by_cases hj3 : j = 3
              · subst hj3
                clear hsame hnl he
                go_wp2_with fail
                refine (HBG.out _ HV8.out HU7.out).mono ?_
                rintro e w8 ⟨rfl, hb8⟩
                have HB8 := Lib.hid (Below.to HB7.out hb8 HB7.out.size)
                have hs8 := HB8.out.size
                clear hb8
                go_wp2_with fail
                go_roundw
                case rel => exact ⟨c + 1, by go_num, by omega, hs8, HB8⟩
                case measure => simp [intOf]; omega
              · have hj3n : (j != 3) = true := by simpa using hj3
                by_cases hjl : j < 3
                · have hlen := hnl (hsame (.inl ⟨hj3, .inl hjl⟩))
                  have hlen2 : ((n7 : Int) != (A.length : Int)) = false := by simp; omega
                  clear hsame hnl he hj3 hlen
                  go_wp2_with fail
                  refine (HBG.out _ HV8.out HU7.out).mono ?_
                  rintro e w8 ⟨rfl, hb8⟩
                  have HB8 := Lib.hid (Below.to HB7.out hb8 HB7.out.size)
                  have hs8 := HB8.out.size
                  clear hb8
                  go_wp2_with fail
                  go_roundw
                  case rel => exact ⟨c + 1, by go_num, by omega, hs8, HB8⟩
                  case measure => simp [intOf]; omega
                · have hjl2 : 3 ≤ j := by omega
                  by_cases hbt : (c : Int) = t
                  · have hbt2 : ((c : Int) != t) = false := by simpa using hbt
                    clear hsame hnl he hj3 hbt hjl
                    go_wp2_with fail
                    refine (HBG.out _ HV8.out HU7.out).mono ?_
                    rintro e w8 ⟨rfl, hb8⟩
                    have HB8 := Lib.hid (Below.to HB7.out hb8 HB7.out.size)
                    have hs8 := HB8.out.size
                    clear hb8
                    go_wp2_with fail
                    go_roundw
                    case rel => exact ⟨c + 1, by go_num, by omega, hs8, HB8⟩
                    case measure => simp [intOf]; omega
                  · have hbt2 : ((c : Int) != t) = true := by simpa using hbt
                    have hlen := hnl (hsame (.inl ⟨hj3, .inr hbt⟩))
                    have hlen2 : ((n7 : Int) != (A.length : Int)) = false := by simp; omega
                    clear hsame hnl he hj3 hlen hbt hjl
                    go_wp2_with fail
                    refine (HBG.out _ HV8.out HU7.out).mono ?_
                    rintro e w8 ⟨rfl, hb8⟩
                    have HB8 := Lib.hid (Below.to HB7.out hb8 HB7.out.size)
                    have hs8 := HB8.out.size
                    clear hb8
                    go_wp2_with fail
                    go_roundw
                    case rel => exact ⟨c + 1, by go_num, by omega, hs8, HB8⟩
                    case measure => simp [intOf]; omega
            · have he2 : (e1 != 0) = true := by simpa using he
              have hlen := hnl (hsame (.inr he))
              have hlen2 : ((n7 : Int) != (A.length : Int)) = false := by simp; omega
              by_cases hj3 : j = 3
              · subst hj3
                clear hsame hnl he hlen
                go_wp2_with fail
                refine (HBG.out _ HV8.out HU7.out).mono ?_
                rintro e w8 ⟨rfl, hb8⟩
                have HB8 := Lib.hid (Below.to HB7.out hb8 HB7.out.size)
                have hs8 := HB8.out.size
                clear hb8
                go_wp2_with fail
                go_roundw
                case rel => exact ⟨c + 1, by go_num, by omega, hs8, HB8⟩
                case measure => simp [intOf]; omega
              · have hj3n : (j != 3) = true := by simpa using hj3
                by_cases hjl : j < 3
                · clear hsame hnl he hj3 hlen
                  go_wp2_with fail
                  refine (HBG.out _ HV8.out HU7.out).mono ?_
                  rintro e w8 ⟨rfl, hb8⟩
                  have HB8 := Lib.hid (Below.to HB7.out hb8 HB7.out.size)
                  have hs8 := HB8.out.size
                  clear hb8
                  go_wp2_with fail
                  go_roundw
                  case rel => exact ⟨c + 1, by go_num, by omega, hs8, HB8⟩
                  case measure => simp [intOf]; omega
                · have hjl2 : 3 ≤ j := by omega
                  by_cases hbt : (c : Int) = t
                  · have hbt2 : ((c : Int) != t) = false := by simpa using hbt
                    clear hsame hnl he hj3 hlen hbt hjl
                    go_wp2_with fail
                    refine (HBG.out _ HV8.out HU7.out).mono ?_
                    rintro e w8 ⟨rfl, hb8⟩
                    have HB8 := Lib.hid (Below.to HB7.out hb8 HB7.out.size)
                    have hs8 := HB8.out.size
                    clear hb8
                    go_wp2_with fail
                    go_roundw
                    case rel => exact ⟨c + 1, by go_num, by omega, hs8, HB8⟩
                    case measure => simp [intOf]; omega
                  · have hbt2 : ((c : Int) != t) = true := by simpa using hbt
                    clear hsame hnl he hj3 hlen hbt hjl
                    go_wp2_with fail
                    refine (HBG.out _ HV8.out HU7.out).mono ?_
                    rintro e w8 ⟨rfl, hb8⟩
                    have HB8 := Lib.hid (Below.to HB7.out hb8 HB7.out.size)
                    have hs8 := HB8.out.size
                    clear hb8
                    go_wp2_with fail
                    go_roundw
                    case rel => exact ⟨c + 1, by go_num, by omega, hs8, HB8⟩
                    case measure => simp [intOf]; omega
          · have HB6 := Lib.hid (Below.to HB5.out HQ.out HB5.out.size)
            have hs6 := HB6.out.size
            have HV6 : Hid (IsBrs _ _ m) := HVQ
            go_wp2_with fail
            go_roundw
            case rel => exact ⟨k + 1, m, _, rfl, by go_num, by omega, HV6, HGM, hs6, HB6⟩
            case measure => simp [intOf]; omega
      · go_wp2_with fail
        refine (lives_any _).mono ?_
        rintro e w99 ⟨rfl, hb99⟩
        go_wp2_with fail
        go_ret
        exact ⟨rfl, Below.to HB.out hb99 HB.out.size⟩
    · go_wp2_with fail
      refine (lives_any _).mono ?_
      rintro e w99 ⟨rfl, hb99⟩
      go_wp2_with fail
      go_ret
      exact ⟨rfl, Below.to HB.out hb99 HB.out.size⟩

end Go.Proofs.Ytgfnelpfoegdaaa
