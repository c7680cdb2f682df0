/-
  The law ForkChanges: its walk.
-/
import Derived.Test.YtgfnelpfoegdaaaFWk
namespace Go.Proofs.Ytgfnelpfoegdaaa
open Go.RowKit

set_option maxHeartbeats 4000000 in
set_option maxRecDepth 100000 in
theorem forkChanges_any (xs : List Int) (v : Value) (b n : Int) (w : World) (hx : IsInts w v xs) (hw : ∀ x ∈ xs, I64 x) (hb : I64 b) :
    Calls Try.prog 4 #[v, .int .i64 b, .int .i64 n] w fun e w' => e = .returned (.bool true) ∧ Below w.heap.size w w' := by
  have HBR := Lib.hid (branches_any xs v w hx hw)
  have HBN : Hid (b ≤ 9223372036854775807) := hb.2
  clear hx hw hb
  go_enter Try.func4, Try.ntmps4
  go_wp2_with fail
  refine HBR.out.mono ?_
  rintro e w0 ⟨v0, rfl, l, hl0, hg, hb0⟩
  have HL0 := Lib.hid hl0
  have HG := Lib.hid hg.1
  have HLN : Hid (l.length ≤ 1000) := (by have := hg.1.1; show _ ≤ _; omega)
  have HB0 := Lib.hid hb0
  clear hl0 hg hb0 HBR
  go_wp2_with fail
  refine (forkRoot l _ n _ HL0.out HLN.out HG.out.owns).mono ?_
  rintro e w1 ⟨v1, rfl, hv1, hb1⟩
  have HL1 := Lib.hid (HL0.out.below hb1)
  have HB1 := Lib.hid (Below.to HB0.out hb1 HB0.out.size)
  have A1_1 := Lib.hid hv1
  clear hv1
  clear hb1
  go_wp2_with fail
  refine (refRoot l _ n _ HL1.out HLN.out HG.out.owns).mono ?_
  rintro e w2 ⟨v2, rfl, hv2, hb2⟩
  have HL2 := Lib.hid (HL1.out.below hb2)
  have A1_2 := Lib.hid (A1_1.out.below hb2)
  have HB2 := Lib.hid (Below.to HB1.out hb2 HB1.out.size)
  have A2_2 := Lib.hid hv2
  clear hv2
  clear hb2
  go_wp2_with fail
  refine (forkFork l _ b n _ HL2.out HG.out HBN.out).mono ?_
  rintro e w3 ⟨v3, rfl, hv3, hb3⟩
  have HL3 := Lib.hid (HL2.out.below hb3)
  have A1_3 := Lib.hid (A1_2.out.below hb3)
  have A2_3 := Lib.hid (A2_2.out.below hb3)
  have HB3 := Lib.hid (Below.to HB2.out hb3 HB2.out.size)
  have B1_3 := Lib.hid hv3
  clear hv3
  clear hb3
  go_wp2_with fail
  refine (refFork l _ b n _ HL3.out HG.out).mono ?_
  rintro e w4 ⟨v4, rfl, hv4, hb4⟩
  have HL4 := Lib.hid (HL3.out.below hb4)
  have A1_4 := Lib.hid (A1_3.out.below hb4)
  have A2_4 := Lib.hid (A2_3.out.below hb4)
  have B1_4 := Lib.hid (B1_3.out.below hb4)
  have HB4 := Lib.hid (Below.to HB3.out hb4 HB3.out.size)
  have B2_4 := Lib.hid hv4
  clear hv4
  clear hb4
  go_wp2_with fail
  refine (sameBrs_eq _ _ _ _ A1_4.out A2_4.out).mono ?_
  rintro e w5 ⟨rfl, hb5⟩
  have HL5 := Lib.hid (HL4.out.below hb5)
  have A1_5 := Lib.hid (A1_4.out.below hb5)
  have A2_5 := Lib.hid (A2_4.out.below hb5)
  have B1_5 := Lib.hid (B1_4.out.below hb5)
  have B2_5 := Lib.hid (B2_4.out.below hb5)
  have HB5 := Lib.hid (Below.to HB4.out hb5 HB4.out.size)
  clear hb5
  go_wp2_with fail
  refine (sameBrs_eq _ _ _ _ B1_5.out B2_5.out).mono ?_
  rintro e w6 ⟨rfl, hb6⟩
  have HL6 := Lib.hid (HL5.out.below hb6)
  have A1_6 := Lib.hid (A1_5.out.below hb6)
  have A2_6 := Lib.hid (A2_5.out.below hb6)
  have B1_6 := Lib.hid (B1_5.out.below hb6)
  have B2_6 := Lib.hid (B2_5.out.below hb6)
  have HB6 := Lib.hid (Below.to HB5.out hb6 HB5.out.size)
  clear hb6
  go_wp2_with fail
  refine (forkAdd l _ b n _ HL6.out HG.out HBN.out).mono ?_
  rintro e w7 ⟨v7, rfl, hv7, hb7⟩
  have HL7 := Lib.hid (HL6.out.below hb7)
  have HB7 := Lib.hid (Below.to HB6.out hb7 HB6.out.size)
  have C1_7 := Lib.hid hv7
  clear hv7
  clear hb7
  go_wp2_with fail
  refine (refAdd l _ b n _ HL7.out HG.out).mono ?_
  rintro e w8 ⟨v8, rfl, hv8, hb8⟩
  have HL8 := Lib.hid (HL7.out.below hb8)
  have C1_8 := Lib.hid (C1_7.out.below hb8)
  have HB8 := Lib.hid (Below.to HB7.out hb8 HB7.out.size)
  have C2_8 := Lib.hid hv8
  clear hv8
  clear hb8
  go_wp2_with fail
  refine (forkRemand l _ b _ HL8.out HG.out HBN.out).mono ?_
  rintro e w9 ⟨v9, rfl, hv9, hb9⟩
  have HL9 := Lib.hid (HL8.out.below hb9)
  have C1_9 := Lib.hid (C1_8.out.below hb9)
  have C2_9 := Lib.hid (C2_8.out.below hb9)
  have HB9 := Lib.hid (Below.to HB8.out hb9 HB8.out.size)
  have D1_9 := Lib.hid hv9
  clear hv9
  clear hb9
  go_wp2_with fail
  refine (refRemand l _ b _ HL9.out HG.out).mono ?_
  rintro e w10 ⟨v10, rfl, hv10, hb10⟩
  have HL10 := Lib.hid (HL9.out.below hb10)
  have C1_10 := Lib.hid (C1_9.out.below hb10)
  have C2_10 := Lib.hid (C2_9.out.below hb10)
  have D1_10 := Lib.hid (D1_9.out.below hb10)
  have HB10 := Lib.hid (Below.to HB9.out hb10 HB9.out.size)
  have D2_10 := Lib.hid hv10
  clear hv10
  clear hb10
  go_wp2_with fail
  refine (sameBrs_eq _ _ _ _ C1_10.out C2_10.out).mono ?_
  rintro e w11 ⟨rfl, hb11⟩
  have HL11 := Lib.hid (HL10.out.below hb11)
  have C1_11 := Lib.hid (C1_10.out.below hb11)
  have C2_11 := Lib.hid (C2_10.out.below hb11)
  have D1_11 := Lib.hid (D1_10.out.below hb11)
  have D2_11 := Lib.hid (D2_10.out.below hb11)
  have HB11 := Lib.hid (Below.to HB10.out hb11 HB10.out.size)
  clear hb11
  go_wp2_with fail
  refine (sameBrs_eq _ _ _ _ D1_11.out D2_11.out).mono ?_
  rintro e w12 ⟨rfl, hb12⟩
  have HL12 := Lib.hid (HL11.out.below hb12)
  have C1_12 := Lib.hid (C1_11.out.below hb12)
  have C2_12 := Lib.hid (C2_11.out.below hb12)
  have D1_12 := Lib.hid (D1_11.out.below hb12)
  have D2_12 := Lib.hid (D2_11.out.below hb12)
  have HB12 := Lib.hid (Below.to HB11.out hb12 HB11.out.size)
  clear hb12
  go_wp2_with fail
  refine (lives_any _).mono ?_
  rintro e w99 ⟨rfl, hb99⟩
  go_wp2_with fail
  go_ret
  exact ⟨rfl, Below.to HB12.out hb99 HB12.out.size⟩

end Go.Proofs.Ytgfnelpfoegdaaa
