/-
  The law ForkReads: its walk.
-/
import Derived.Test.YtgfnelpfoegdaaaFWi
namespace Go.Proofs.Ytgfnelpfoegdaaa
open Go.RowKit

set_option maxHeartbeats 2000000 in
set_option maxRecDepth 100000 in
theorem forkReads_any (xs : List Int) (v : Value) (a b : Int) (w : World) (hx : IsInts w v xs) (hw : ∀ x ∈ xs, I64 x) :
    Calls Try.prog 8 #[v, .int .i64 a, .int .i64 b] w fun e w' => e = .returned (.bool true) ∧ Below w.heap.size w w' := by
  have HBR := Lib.hid (branches_any xs v w hx hw)
  clear hx hw
  go_enter Try.func8, Try.ntmps8
  go_wp2_with fail
  refine HBR.out.mono ?_
  rintro e w0 ⟨v0, rfl, l, hl0, hg, hb0⟩
  have HL0 := Lib.hid hl0
  have HG := Lib.hid hg.1
  have HD : Hid (∀ c, DecPar l c) := fun c => (hg.1.str c).dec
  have HC : Hid (∀ c, (chainZ l c).length ≤ 1000000) := fun c => by have := chainZ_len (l := l) (by have := hg.1.1; omega) c; omega
  have HB0 := Lib.hid hb0
  clear hl0 hg hb0
  go_wp2_with fail
  refine (forkEventsZ l _ a _ HL0.out HG.out).mono ?_
  rintro e w1 ⟨v1, rfl, hv1, hb1⟩
  have HV1 := Lib.hid hv1
  have HL1 := Lib.hid (HL0.out.below hb1)
  have HB1 := Lib.hid (Below.to HB0.out hb1 HB0.out.size)
  have hbb1 := Lib.hid hb1
  clear hv1 hb1
  go_wp2_with fail
  refine (refEventsZ l _ a _ HL1.out HG.out).mono ?_
  rintro e w2 ⟨v2, rfl, hv2, hb2⟩
  have HV2 := Lib.hid hv2
  have HL2 := Lib.hid (HL1.out.below hb2)
  have HB2 := Lib.hid (Below.to HB1.out hb2 HB1.out.size)
  have hbb2 := Lib.hid hb2
  clear hv2 hb2
  go_wp2_with fail
  refine (same_eq _ _ _ _ (HV1.out.below hbb2.out) HV2.out).mono ?_
  rintro e w3 ⟨rfl, n3, hw3⟩
  have hb3 : Below w2.heap.size w2 w3 := by rw [hw3]; exact below_drewN (Below.refl _ _) _
  have HL3 := Lib.hid (HL2.out.below hb3)
  have HB3 := Lib.hid (Below.to HB2.out hb3 HB2.out.size)
  clear hb3 hw3
  go_wp2_with fail
  refine (forkAncestors l _ a _ HL3.out (HD.out a) (HC.out a)).mono ?_
  rintro e w4 ⟨v4, rfl, hv4, hb4⟩
  have HV4 := Lib.hid hv4
  have HL4 := Lib.hid (HL3.out.below hb4)
  have HB4 := Lib.hid (Below.to HB3.out hb4 HB3.out.size)
  have hbb4 := Lib.hid hb4
  clear hv4 hb4
  go_wp2_with fail
  refine (refAncestors l _ a _ HL4.out (HD.out a) (HC.out a)).mono ?_
  rintro e w5 ⟨v5, rfl, hv5, hb5⟩
  have HV5 := Lib.hid hv5
  have HL5 := Lib.hid (HL4.out.below hb5)
  have HB5 := Lib.hid (Below.to HB4.out hb5 HB4.out.size)
  have hbb5 := Lib.hid hb5
  clear hv5 hb5
  go_wp2_with fail
  refine (same_eq _ _ _ _ (HV4.out.below hbb5.out) HV5.out).mono ?_
  rintro e w6 ⟨rfl, n6, hw6⟩
  have hb6 : Below w5.heap.size w5 w6 := by rw [hw6]; exact below_drewN (Below.refl _ _) _
  have HL6 := Lib.hid (HL5.out.below hb6)
  have HB6 := Lib.hid (Below.to HB5.out hb6 HB5.out.size)
  clear hb6 hw6
  go_wp2_with fail
  refine (forkDepth l _ a _ HL6.out (HD.out a) (HC.out a)).mono ?_
  rintro e w7 ⟨rfl, hb7⟩
  have HL7 := Lib.hid (HL6.out.below hb7)
  have HB7 := Lib.hid (Below.to HB6.out hb7 HB6.out.size)
  clear hb7
  go_wp2_with fail
  refine (refDepth l _ a _ HL7.out (HD.out a) (HC.out a)).mono ?_
  rintro e w8 ⟨rfl, hb8⟩
  have HL8 := Lib.hid (HL7.out.below hb8)
  have HB8 := Lib.hid (Below.to HB7.out hb8 HB7.out.size)
  clear hb8
  go_wp2_with fail
  refine (forkCommon l _ a b _ HL8.out HG.out).mono ?_
  rintro e w9 ⟨rfl, hb9⟩
  have HL9 := Lib.hid (HL8.out.below hb9)
  have HB9 := Lib.hid (Below.to HB8.out hb9 HB8.out.size)
  clear hb9
  go_wp2_with fail
  refine (refCommon l _ a b _ HL9.out HG.out).mono ?_
  rintro e w10 ⟨rfl, hb10⟩
  have HL10 := Lib.hid (HL9.out.below hb10)
  have HB10 := Lib.hid (Below.to HB9.out hb10 HB9.out.size)
  clear hb10
  go_wp2_with fail
  refine (lives_any _).mono ?_
  rintro e w99 ⟨rfl, hb99⟩
  go_wp2_with fail
  go_ret
  exact ⟨rfl, Below.to HB10.out hb99 HB10.out.size⟩

end Go.Proofs.Ytgfnelpfoegdaaa
