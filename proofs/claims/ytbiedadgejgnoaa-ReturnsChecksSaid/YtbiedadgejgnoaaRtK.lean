/-
  made.
-/
import Derived.Test.YtbiedadgejgnoaaRtJ
namespace Go.Proofs.Ytbiedadgejgnoaa
open Go.RowKit

set_option maxHeartbeats 1000000 in
theorem made_any (c l : List Int) (v u : Value) (n : Int) (w : World) (hx : IsInts w v c) (hc : ∀ x ∈ c, I64 x) (hy : IsInts w u l) (hl : ∀ x ∈ l, I64 x) (hn : I64 n) :
    Calls Try.prog 13 #[v, u, .int .i64 n] w fun e w' => ∃ v1 v2, e = .returned (.tuple #[v1, v2, .int .i64 (baseF n)]) ∧ ∃ cs rs, Hid (GenCar cs ∧ 1 ≤ cs.length ∧ cs.length ≤ 4) ∧ Hid (RetsOk cs.length rs ∧ rs.length ≤ 8 ∧ NearR (baseF n) rs) ∧ IsSps w' v1 cs ∧ IsRts w' v2 rs ∧ Below w.heap.size w w' := by
  have HCA := Lib.hid (carriers_any c v w hx hc)
  have HBA : Hid (∀ W, Calls Try.prog 31 #[.int .i64 n] W fun e w' => e = .returned (.int .i64 (baseF n)) ∧ W = w') := fun W => base_any n hn W
  obtain ⟨hb0, hb1⟩ := baseF_in n
  have HY := Lib.hid hy
  have HRT : Hid (∀ (cs : List (Int × Int)) (v1 : Value) (W : World), IsInts W u l → IsSps W v1 cs → 1 ≤ cs.length → cs.length ≤ 4 → Calls Try.prog 32 #[u, v1, .int .i64 (baseF n)] W fun e w' => ∃ v', e = .returned v' ∧ ∃ rs, Hid (RetsOk cs.length rs ∧ rs.length ≤ 8 ∧ NearR (baseF n) rs) ∧ IsRts w' v' rs ∧ Below W.heap.size W w') := fun cs v1 W h1 h2 h3 h4 => returns_any l cs u v1 (baseF n) W h1 hl h2 h3 h4 hb0 hb1
  obtain ⟨a1, c1, rfl, -, -, -⟩ := hx.open
  obtain ⟨a2, c2, rfl, -, -, -⟩ := hy.open
  generalize baseF n = D at *
  clear hx hy hc hl
  go_enter Try.func13, Try.ntmps13
  go_wp2_with fail
  refine HCA.out.mono ?_
  rintro e w1 ⟨v1, rfl, cs, HG, hv1, hb1'⟩
  have HV1 := Lib.hid hv1
  have HB1 := Lib.hid hb1'
  obtain ⟨a3, c3, rfl, -, -, -⟩ := hv1.open
  clear hv1 hb1' HCA
  go_wp2_with fail
  refine (HBA.out _).mono ?_
  rintro e w' ⟨rfl, rfl⟩
  go_wp2_with fail
  refine (HRT.out cs _ w1 (HY.out.below HB1.out) HV1.out HG.out.2.1 HG.out.2.2).mono ?_
  rintro e w2 ⟨v2, rfl, rs, HR, hv2, hb2⟩
  have HV2 := Lib.hid hv2
  have HB2 := Lib.hid hb2
  obtain ⟨a4, c4, rfl, -, -⟩ := hv2.open
  clear hv2 hb2
  go_wp2_with fail
  go_ret3
  exact ⟨_, _, rfl, cs, rs, HG, HR, HV1.out.below HB2.out, HV2.out, Below.to HB1.out HB2.out HB1.out.size⟩

end Go.Proofs.Ytbiedadgejgnoaa
