/-
  The law ReturnsReasons: its walk.
-/
import Derived.Test.YtbiedadgejgnoaaRtU
import Derived.Test.YtbiedadgejgnoaaRtK
import Derived.Test.YtbiedadgejgnoaaRtZ
namespace Go.Proofs.Ytbiedadgejgnoaa
open Go.RowKit

theorem any_takeR {p : Ret → Bool} {l : List Ret} {k : Nat} (hk : k < l.length) : (l.take (k + 1)).any p = ((l.take k).any p || p l[k]) := by
  rw [List.take_succ_eq_append_getElem hk, List.any_append]
  simp

set_option maxHeartbeats 4000000 in
set_option maxRecDepth 100000 in
theorem returnsReasons_any (c l : List Int) (v u : Value) (n : Int) (w : World) (hx : IsInts w v c) (hc : ∀ x ∈ c, I64 x) (hy : IsInts w u l) (hl : ∀ x ∈ l, I64 x) (hn : I64 n) :
    Calls Try.prog 9 #[v, u, .int .i64 n] w fun e w' => e = .returned (.bool true) ∧ Below w.heap.size w w' := by
  have HM := Lib.hid (made_any c l v u n w hx hc hy hl hn)
  obtain ⟨hb0, hb1⟩ := baseF_in n
  obtain ⟨a1, c1, rfl, -, -, -⟩ := hx.open
  obtain ⟨a2, c2, rfl, -, -, -⟩ := hy.open
  generalize baseF n = D at *
  clear hx hy hc hl hn
  go_enter Try.func9, Try.ntmps9
  go_wp2_with fail
  refine HM.out.mono ?_
  rintro e w1 ⟨v1, v2, rfl, cs, rs, HG, HR, hv1, hv2, hb1'⟩
  have HV1 := Lib.hid hv1
  have HV2 := Lib.hid hv2
  have HB1 := Lib.hid hb1'
  have hrl := HR.out.2.1
  have hcl := HG.out.2.2
  obtain ⟨a3, c3, rfl, -, -⟩ := hv2.open
  obtain ⟨a4, c4, rfl, -, -, -⟩ := hv1.open
  clear hv1 hv2 hb1' HM
  go_wp2_with fail
  refine (allowed_any [] cs _ _ D _ (IsRts.nil _ _ _) HV1.out (by decide) (by omega) (fun r hr => by cases hr) HG.out.1.ok hb0 hb1).mono ?_
  rintro e w2 ⟨v5, nv, rfl, out, HA, hv5, hb2⟩
  obtain ⟨rfl, rfl⟩ := HA.out.none HG.out.1.ok hb1
  have HV5 := Lib.hid hv5
  have HB2 := Lib.hid (Below.to HB1.out hb2 HB1.out.size)
  have HV2' := Lib.hid (HV2.out.below hb2)
  have HV1' := Lib.hid (HV1.out.below hb2)
  obtain ⟨a5, c5, rfl, -, -, -⟩ := hv5.open
  clear hv5 hb2 HV2 HV1 HA
  go_wp2_with fail
  have L1 := Lib.hid (spans_lit w2 [(D, 3652058)] 44 (by simp))
  refine (sameSpans_eq [(D, 3652058)] _ _ _ (HV5.out.al _) L1.out).mono ?_
  rintro e w7 ⟨rfl, b7⟩
  have B6a : Hid (Below w2.heap.size w2 (w2.alloc (.cells (spCells [(D, 3652058)]).toArray 44))) := (Below.refl _ _).alloc (Nat.le_refl _) _
  have B7 := Lib.hid (Below.to B6a.out b7 (B6a.out.size))
  have HB7 := Lib.hid (Below.to HB2.out B7.out HB2.out.size)
  have HV2 := Lib.hid (HV2'.out.below B7.out)
  have HV1 := Lib.hid (HV1'.out.below B7.out)
  clear b7 HV2' HV1' B7 B6a L1 HV5
  go_wp2_with fail
  refine (served_any rs cs _ _ D _ HV2.out HV1.out (by omega) (by omega) HR.out.1 HG.out.1.ok hb0 hb1).mono ?_
  rintro e w8 ⟨x, b, rfl, out, nv, HA, HS, hb8⟩
  have HV3 := Lib.hid (HV2.out.below hb8)
  have HB8 := Lib.hid (Below.to HB7.out hb8 HB7.out.size)
  have HEX : Hid (b = true → ∃ r ∈ rs, r.kind = 1 ∧ wrongB r x = false) := fun h => by
    subst h
    exact HA.out.reason HS.out
  clear hb8 HV2 HA HS
  go_wp2_with fail
  go_loopw [14, 15] (fun o i wr => ∃ (k : Nat) (q : Bool), o = .bool q ∧ i = .int .i64 k ∧ k ≤ rs.length ∧ Hid (q = (rs.take k).any (fun r => decide (r.kind = 1) && !wrongB r x)) ∧ Hid (Below w8.heap.size w8 wr)) (fun _ i _ => rs.length - (intOf i).toNat)
  case atStart => exact ⟨0, false, rfl, rfl, Nat.zero_le _, by show _ = _; simp, Lib.hid (Below.refl _ _)⟩
  case round =>
    obtain ⟨k, q, rfl, rfl, hk, HQ, HBR⟩ := hrel
    have ek : IntKind.i64.wrap ((k : Int) + 1) = ((k + 1 : Nat) : Int) := by rw [IntKind.wrap_i64]; omega
    by_cases hkl : k < rs.length
    · obtain ⟨b5, o5, q5, e5, hlt5, d0, d1, d2, d3⟩ := (HV3.out.below HBR.out).at hkl
      simp only [Value.slice.injEq, true_and] at e5
      obtain ⟨rfl, -⟩ := e5
      have HN : Hid ((rs.take (k + 1)).any (fun r => decide (r.kind = 1) && !wrongB r x) = (q || (decide (rs[k].kind = 1) && !wrongB rs[k] x))) := by
        show _ = _
        rw [any_takeR hkl, ← HQ.out]
      generalize rs[k] = s at *
      obtain ⟨sc, sk, sf, su⟩ := s
      simp only at d0 d1 d2 d3 HN
      obtain ⟨wb, hwb⟩ : ∃ wb : Bool, wrongB ⟨sc, sk, sf, su⟩ x = wb := ⟨_, rfl⟩
      have W1 : Hid (∀ W, Calls Try.prog 15 #[.agg #[.int .i64 sc, .int .i64 sk, .int .i64 sf, .int .i64 su], .int .i64 x] W fun e w' => e = .returned (.bool wb) ∧ Below W.heap.size W w') := fun W => wrong_is ⟨sc, sk, sf, su⟩ x _ hwb W
      rw [hwb] at HN
      clear hwb HQ
      cases q with
      | true =>
        have HN2 : Hid (true = (rs.take (k + 1)).any (fun r => decide (r.kind = 1) && !wrongB r x)) := by show _ = _; rw [HN.out]; rfl
        clear HN
        go_wp2_with fail
        go_roundw
        case rel => exact ⟨k + 1, true, rfl, by go_num, by omega, HN2, HBR⟩
        case measure => simp [intOf]; omega
      | false =>
        by_cases hk1 : sk = 1
        · subst hk1
          have HN2 : Hid ((!wb) = (rs.take (k + 1)).any (fun r => decide (r.kind = 1) && !wrongB r x)) := by show _ = _; rw [HN.out]; simp
          clear HN
          go_wp2_with fail
          refine (W1.out _).mono ?_
          rintro e w3 ⟨rfl, hb3⟩
          have HB3 := Lib.hid (Below.to HBR.out hb3 HBR.out.size)
          clear hb3
          go_wp2_with fail
          go_roundw
          case rel => exact ⟨k + 1, !wb, rfl, by go_num, by omega, HN2, HB3⟩
          case measure => simp [intOf]; omega
        · have HN2 : Hid (false = (rs.take (k + 1)).any (fun r => decide (r.kind = 1) && !wrongB r x)) := by show _ = _; rw [HN.out]; simp [hk1]
          have hk1' : (sk == 1) = false := by simpa using hk1
          clear HN
          go_wp2_with fail
          go_roundw
          case rel => exact ⟨k + 1, false, rfl, by go_num, by omega, HN2, HBR⟩
          case measure => simp [intOf]; omega
    · have HB9 := Lib.hid (Below.to HB8.out HBR.out HB8.out.size)
      have hk' : k = rs.length := by omega
      subst hk'
      have HQ2 : Hid (b = true → q = true) := fun h => by
        rw [HQ.out, List.take_length, List.any_eq_true]
        obtain ⟨r, hr, h1, h2⟩ := HEX.out h
        exact ⟨r, hr, by simp [h1, h2]⟩
      have HL := Lib.hid lives_any
      clear HQ HEX
      cases b with
      | true =>
        obtain rfl : q = true := HQ2.out rfl
        go_wp2_with fail
        refine (HL.out _).mono ?_
        rintro e w99 ⟨rfl, hb99⟩
        have HB99 := Lib.hid (Below.to HB9.out hb99 HB9.out.size)
        clear hb99
        go_wp2_with fail
        go_ret
        exact ⟨rfl, HB99.out⟩
      | false =>
        go_wp2_with fail
        refine (HL.out _).mono ?_
        rintro e w99 ⟨rfl, hb99⟩
        have HB99 := Lib.hid (Below.to HB9.out hb99 HB9.out.size)
        clear hb99
        go_wp2_with fail
        go_ret
        exact ⟨rfl, HB99.out⟩

end Go.Proofs.Ytbiedadgejgnoaa
