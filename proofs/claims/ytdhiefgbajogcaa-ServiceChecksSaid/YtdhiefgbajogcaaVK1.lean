/-
  The law ServiceChecks: its walk.
-/
import Derived.Test.YtdhiefgbajogcaaVO1
namespace Go.Proofs.Ytdhiefgbajogcaa
open Go.RowKit

set_option maxHeartbeats 4000000 in
set_option maxRecDepth 100000 in
theorem serviceChecks_any (raw : List At) (l m : List Int) (q v u : Value) (w : World) (hq : IsAts w q raw) (hx : IsInts w v l) (hl : ∀ x ∈ l, I64 x) (hy : IsInts w u m) (hm : ∀ x ∈ m, I64 x) :
    Calls Try.prog 3 #[q, v, u] w fun e w' => e = .returned (.bool true) ∧ Below w.heap.size w w' := by
  have HQ := Lib.hid hq
  have HX := Lib.hid hx
  have HY := Lib.hid hy
  have HM := Lib.hid hm
  have HCA := Lib.hid (carriers_any l v w hx hl)
  obtain ⟨qa, qc, rfl, hql, -, -⟩ := hq.open
  obtain ⟨a1, c1, rfl, -, -, -⟩ := hx.open
  obtain ⟨a2, c2, rfl, -, -, -⟩ := hy.open
  unfold maxLen at hql
  clear hq hx hl hy hm
  go_enter Try.func3, Try.ntmps3
  go_wp2_with fail
  refine HCA.out.mono ?_
  rintro e w1 ⟨v1, rfl, cs, HG, hv1, b1⟩
  have HV1 := Lib.hid hv1
  have E1 := Lib.hid b1
  have HQ := Lib.hid (HQ.out.below b1)
  have HY := Lib.hid (HY.out.below b1)
  obtain ⟨a3, c3, rfl, -, -, -⟩ := hv1.open
  clear hv1 b1 HCA HX
  by_cases h20 : 20 < raw.length
  · have h20I : (20 : Int) < (raw.length : Int) := by omega
    go_wp2_with fail
    refine (lives21 _).mono ?_
    rintro e w7 ⟨rfl, b7⟩
    have E7 := Lib.hid (Below.to E1.out b7 E1.out.size)
    clear b7
    go_wp2_with fail
    go_ret
    exact ⟨rfl, E7.out⟩
  have h20I : ¬ (20 : Int) < (raw.length : Int) := by omega
  go_wp2_with fail
  go_loopw [8] (fun i wr => ∃ k : Nat, i = .int .i64 k ∧ k ≤ raw.length ∧ wr = w1) (fun i _ => raw.length - (intOf i).toNat)
  case atStart => exact ⟨0, rfl, Nat.zero_le _, rfl⟩
  case round =>
    obtain ⟨k, rfl, hk, rfl⟩ := hrel
    have ek : IntKind.i64.wrap ((k : Int) + 1) = ((k + 1 : Nat) : Int) := by rw [IntKind.wrap_i64]; omega
    by_cases hkl : k < raw.length
    · have hkI : (k : Int) < (raw.length : Int) := by omega
      obtain ⟨_, _, e5, -, -, hcl'⟩ := HQ.out.open
      obtain ⟨b5, o5, ux, e9, hus, d0, d1, d2, d3, d4⟩ := hcl' k hkl
      subst e9
      simp only [Value.slice.injEq, true_and] at e5
      obtain ⟨rfl, -⟩ := e5
      obtain ⟨ua, uc, rfl⟩ := hus.sl
      clear hus hcl' d0 d1 d2 d3
      generalize raw[k].own.length = n9 at *
      by_cases h40 : 40 < n9
      · have h40I : (40 : Int) < (n9 : Int) := by omega
        go_wp2_with fail
        refine (lives21 _).mono ?_
        rintro e w7 ⟨rfl, b7⟩
        have E7 := Lib.hid (Below.to E1.out b7 E1.out.size)
        clear b7
        go_wp2_with fail
        go_ret
        exact ⟨rfl, E7.out⟩
      · have h40I : ¬ (40 : Int) < (n9 : Int) := by omega
        go_wp2_with fail
        go_roundw
        case rel => exact ⟨k + 1, by go_num, by first | trivial | omega | exact ⟨by omega, trivial⟩⟩
        case measure => simp [intOf]; omega
    · have hkI : ¬ (k : Int) < (raw.length : Int) := by omega
      obtain ⟨CK, hCK⟩ : ∃ CK, chkL cs.length raw = CK := ⟨_, rfl⟩
      have K1 : Hid (∀ W v u, IsAts W v raw → IsSps W u cs → Calls Try.prog 14 #[v, u] W fun e w' => e = .returned (.int .i64 CK) ∧ Below W.heap.size W w') := fun W v u h1 h2 => by
        have h := svcCheckL raw cs v u W h1 h2
        rw [hCK] at h
        exact h
      have K2 : Hid (∀ W v u, IsAts W v raw → IsSps W u cs → Calls Try.prog 15 #[v, u] W fun e w' => e = .returned (.int .i64 CK) ∧ Below W.heap.size W w') := fun W v u h1 h2 => by
        have h := refCheckL raw cs v u W h1 h2
        rw [hCK] at h
        exact h
      have K3 : Hid (∀ (W : World) (v1 : Value), IsInts W (.slice a2 m.length c2) m → IsSps W v1 cs → Calls Try.prog 16 #[.slice a2 m.length c2, v1] W fun e w' => ∃ v', e = .returned v' ∧ ∃ ats, Hid (GenAts cs.length ats ∧ ats.length ≤ 8) ∧ (∃ us, OwnAts w' W.heap.size 29 37 v' ats us ats.length) ∧ Below W.heap.size W w') := fun W v1 h1 h2 => attempts_any m cs _ v1 W h1 HM.out h2 HG.out.2.1 HG.out.2.2
      clear hCK
      go_wp2_with fail
      refine (K1.out _ _ _ HQ.out HV1.out).mono ?_
      rintro e w2 ⟨rfl, b2⟩
      have HV1 := Lib.hid (HV1.out.below b2)
      have HQ := Lib.hid (HQ.out.below b2)
      have HY := Lib.hid (HY.out.below b2)
      have E2 := Lib.hid (Below.to E1.out b2 E1.out.size)
      clear b2
      go_wp2_with fail
      refine (K2.out _ _ _ HQ.out HV1.out).mono ?_
      rintro e w3 ⟨rfl, b3⟩
      have HV1 := Lib.hid (HV1.out.below b3)
      have HY := Lib.hid (HY.out.below b3)
      have E3 := Lib.hid (Below.to E2.out b3 E2.out.size)
      clear b3
      go_wp2_with fail
      refine (K3.out _ _ HY.out HV1.out).mono ?_
      rintro e w4 ⟨v4, rfl, at2, HR2, hv4, b4⟩
      obtain ⟨us4, hv4⟩ := hv4
      have HV4 : Hid (IsAts w4 v4 at2) := ⟨us4, hv4.reads⟩
      have HV1 := Lib.hid (HV1.out.below b4)
      have E4 := Lib.hid (Below.to E3.out b4 E3.out.size)
      have K4 : Hid (∀ W v u, IsAts W v at2 → IsSps W u cs → Calls Try.prog 14 #[v, u] W fun e w' => e = .returned (.int .i64 0) ∧ Below W.heap.size W w') := fun W v u h1 h2 => by
        have h := svcCheckL at2 cs v u W h1 h2
        rw [HR2.out.1.ok.chk (by have := HR2.out.2; omega)] at h
        exact h
      obtain ⟨a5, c5, rfl, -, -⟩ := HV4.out.open
      clear hv4 b4 K3
      go_wp2_with fail
      refine (K4.out _ _ _ HV4.out HV1.out).mono ?_
      rintro e w5 ⟨rfl, b5⟩
      have E5 := Lib.hid (Below.to E4.out b5 E4.out.size)
      clear b5
      go_wp2_with fail
      refine (lives21 _).mono ?_
      rintro e w7 ⟨rfl, b7⟩
      have E7 := Lib.hid (Below.to E5.out b7 E5.out.size)
      clear b7
      go_wp2_with fail
      go_ret
      exact ⟨rfl, E7.out⟩

end Go.Proofs.Ytdhiefgbajogcaa
