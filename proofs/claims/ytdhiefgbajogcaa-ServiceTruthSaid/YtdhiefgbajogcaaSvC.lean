/-
  The checks of attempts: the program's and the reference's.
-/
import Derived.Test.YtdhiefgbajogcaaRwP
namespace Go.Proofs.Ytdhiefgbajogcaa
open Go.RowKit

theorem chkA_bad {n : Nat} {a : At} (h : headB n a = false) : chkA n a = 5 := by
  unfold chkA
  rw [h]
  rfl
theorem chkA_good {n : Nat} {a : At} (h : headB n a = true) : chkA n a = chkF n a.own := if_pos h
theorem IsRts.sl {w : World} {v : Value} {l : List Ret} (h : IsRts w v l) : ∃ a c, v = .slice a l.length c := by
  obtain ⟨a, c, rfl, -, -⟩ := h.open
  exact ⟨a, c, rfl⟩

def inB (n most : Int) : Bool := decide (0 ≤ n) && decide (n ≤ most)
theorem in_any (n most : Int) (w : World) : Calls Try.prog 64 #[.int .i64 n, .int .i64 most] w fun e w' => e = .returned (.bool (inB n most)) ∧ w = w' := by
  by_cases h : 0 ≤ n
  · have HR : Hid (inB n most = decide (n ≤ most)) := by show _ = _; unfold inB; simp [h]
    go_enter Try.func64, Try.ntmps64
    go_wp2
    go_ret
    exact ⟨ret_bool HR.out.symm, rfl⟩
  · have HR : Hid (inB n most = false) := by show _ = _; unfold inB; simp [h]
    have h' : n < 0 := by omega
    go_enter Try.func64, Try.ntmps64
    go_wp2
    go_ret
    exact ⟨ret_bool HR.out.symm, rfl⟩
theorem in_is (n most : Int) (b : Bool) (h : inB n most = b) (w : World) : Calls Try.prog 64 #[.int .i64 n, .int .i64 most] w fun e w' => e = .returned (.bool b) ∧ w = w' := by
  rw [← h]; exact in_any n most w

set_option maxHeartbeats 2000000 in
theorem svcCheck (a : At) (cs : List (Int × Int)) (u v : Value) (w : World) (hu : IsRts w u a.own) (hy : IsSps w v cs) :
    Calls Try.prog 33 #[.agg #[.int .i64 a.ent, .int .i64 a.par, .int .i64 a.car, .int .i64 a.sent, u], v] w fun e w' => e = .returned (.int .i64 (chkA cs.length a)) ∧ Below w.heap.size w w' := by
  obtain ⟨ae, ap, ac, an, ow⟩ := a
  have HU := Lib.hid hu
  have HY := Lib.hid hy
  obtain ⟨ua, uc, rfl⟩ := hu.sl
  obtain ⟨va, vc, rfl, -, -, -⟩ := hy.open
  have HB : Hid (Below w.heap.size w (w.alloc (.cells #[.int .i64 ae, .int .i64 ap, .int .i64 ac, .int .i64 an, .slice ua ow.length uc] 29))) := (Below.refl _ _).alloc (Nat.le_refl _) _
  clear hu hy
  show Calls Try.prog 33 #[.agg #[.int .i64 ae, .int .i64 ap, .int .i64 ac, .int .i64 an, .slice ua ow.length uc], _] w _
  by_cases h0 : ae < 0
  · have HR : Hid (chkA cs.length ⟨ae, ap, ac, an, ow⟩ = 5) := chkA_bad (by simp [headB]; omega)
    go_enter Try.func33, Try.ntmps33
    go_wp2_with fail
    go_ret
    exact ⟨ret_int HR.out.symm, HB.out⟩
  · have g0 : 0 ≤ ae := by omega
    by_cases h1 : 65536 ≤ ae
    · have HR : Hid (chkA cs.length ⟨ae, ap, ac, an, ow⟩ = 5) := chkA_bad (by simp [headB]; omega)
      go_enter Try.func33, Try.ntmps33
      go_wp2_with fail
      go_ret
      exact ⟨ret_int HR.out.symm, HB.out⟩
    · have g1 : ae < 65536 := by omega
      by_cases h2 : ap < 0
      · have HR : Hid (chkA cs.length ⟨ae, ap, ac, an, ow⟩ = 5) := chkA_bad (by simp [headB]; omega)
        go_enter Try.func33, Try.ntmps33
        go_wp2_with fail
        go_ret
        exact ⟨ret_int HR.out.symm, HB.out⟩
      · have g2 : 0 ≤ ap := by omega
        by_cases h3 : 64 ≤ ap
        · have HR : Hid (chkA cs.length ⟨ae, ap, ac, an, ow⟩ = 5) := chkA_bad (by simp [headB]; omega)
          go_enter Try.func33, Try.ntmps33
          go_wp2_with fail
          go_ret
          exact ⟨ret_int HR.out.symm, HB.out⟩
        · have g3 : ap < 64 := by omega
          by_cases h4 : ac < 0
          · have HR : Hid (chkA cs.length ⟨ae, ap, ac, an, ow⟩ = 5) := chkA_bad (by simp [headB]; omega)
            go_enter Try.func33, Try.ntmps33
            go_wp2_with fail
            go_ret
            exact ⟨ret_int HR.out.symm, HB.out⟩
          · have g4 : 0 ≤ ac := by omega
            by_cases h5 : (cs.length : Int) ≤ ac
            · have HR : Hid (chkA cs.length ⟨ae, ap, ac, an, ow⟩ = 5) := chkA_bad (by simp [headB]; omega)
              go_enter Try.func33, Try.ntmps33
              go_wp2_with fail
              go_ret
              exact ⟨ret_int HR.out.symm, HB.out⟩
            · have g5 : ac < (cs.length : Int) := by omega
              by_cases h6 : an < 0
              · have HR : Hid (chkA cs.length ⟨ae, ap, ac, an, ow⟩ = 5) := chkA_bad (by simp [headB]; omega)
                go_enter Try.func33, Try.ntmps33
                go_wp2_with fail
                go_ret
                exact ⟨ret_int HR.out.symm, HB.out⟩
              · have g6 : 0 ≤ an := by omega
                by_cases h7 : 3652058 < an
                · have HR : Hid (chkA cs.length ⟨ae, ap, ac, an, ow⟩ = 5) := chkA_bad (by simp [headB]; omega)
                  go_enter Try.func33, Try.ntmps33
                  go_wp2_with fail
                  go_ret
                  exact ⟨ret_int HR.out.symm, HB.out⟩
                · have g7 : an ≤ 3652058 := by omega
                  have HR : Hid (chkA cs.length ⟨ae, ap, ac, an, ow⟩ = chkF cs.length ow) := chkA_good (by simp [headB]; omega)
                  have HC := Lib.hid (check_any ow cs _ _ _ (HU.out.below HB.out) (HY.out.below HB.out))
                  go_enter Try.func33, Try.ntmps33
                  go_wp2_with fail
                  refine HC.out.mono ?_
                  rintro e w1 ⟨rfl, hb1⟩
                  have HB1 := Lib.hid (Below.to HB.out hb1 HB.out.size)
                  clear hb1
                  go_wp2_with fail
                  go_ret
                  exact ⟨ret_int HR.out.symm, HB1.out⟩

set_option maxHeartbeats 2000000 in
theorem refWrongA (a : At) (cs : List (Int × Int)) (u v : Value) (w : World) (hu : IsRts w u a.own) (hy : IsSps w v cs) :
    Calls Try.prog 34 #[.agg #[.int .i64 a.ent, .int .i64 a.par, .int .i64 a.car, .int .i64 a.sent, u], v] w fun e w' => e = .returned (.int .i64 (chkA cs.length a)) ∧ Below w.heap.size w w' := by
  obtain ⟨ae, ap, ac, an, ow⟩ := a
  have HU := Lib.hid hu
  have HY := Lib.hid hy
  obtain ⟨ua, uc, rfl⟩ := hu.sl
  obtain ⟨va, vc, rfl, -, -, -⟩ := hy.open
  have HB : Hid (Below w.heap.size w (w.alloc (.cells #[.int .i64 ae, .int .i64 ap, .int .i64 ac, .int .i64 an, .slice ua ow.length uc] 29))) := (Below.refl _ _).alloc (Nat.le_refl _) _
  clear hu hy
  have hmx : cs.length ≤ maxLen := HY.out.2.1
  unfold maxLen at hmx
  have hsub : IntKind.i64.wrap ((cs.length : Int) - 1) = (cs.length : Int) - 1 := by rw [IntKind.wrap_i64]; omega
  show Calls Try.prog 34 #[.agg #[.int .i64 ae, .int .i64 ap, .int .i64 ac, .int .i64 an, .slice ua ow.length uc], _] w _
  by_cases i0 : inB ae 65535 = true
  · have I0 := Lib.hid (in_is ae 65535 true i0)
    by_cases i1 : inB ap 63 = true
    · have I1 := Lib.hid (in_is ap 63 true i1)
      by_cases i2 : inB ac ((cs.length : Int) - 1) = true
      · have I2 := Lib.hid (in_is ac ((cs.length : Int) - 1) true i2)
        by_cases i3 : inB an 3652058 = true
        · have I3 := Lib.hid (in_is an 3652058 true i3)
          have HR : Hid (chkA cs.length ⟨ae, ap, ac, an, ow⟩ = chkF cs.length ow) := chkA_good (by simp [inB] at i0 i1 i2 i3; simp [headB]; omega)
          have HC := Lib.hid (refCheck_any ow cs _ _ _ (HU.out.below HB.out) (HY.out.below HB.out))
          clear i0 i1 i2 i3
          go_enter Try.func34, Try.ntmps34
          go_wp2_with fail
          refine (I0.out _).mono ?_
          rintro e w' ⟨rfl, rfl⟩
          go_wp2_with fail
          refine (I1.out _).mono ?_
          rintro e w' ⟨rfl, rfl⟩
          go_wp2_with fail
          refine (I2.out _).mono ?_
          rintro e w' ⟨rfl, rfl⟩
          go_wp2_with fail
          refine (I3.out _).mono ?_
          rintro e w' ⟨rfl, rfl⟩
          go_wp2_with fail
          refine HC.out.mono ?_
          rintro e w1 ⟨rfl, hb1⟩
          have HB1 := Lib.hid (Below.to HB.out hb1 HB.out.size)
          clear hb1
          go_wp2_with fail
          go_ret
          exact ⟨ret_int HR.out.symm, HB1.out⟩
        · have j3 : inB an 3652058 = false := by simpa using i3
          have I3 := Lib.hid (in_is an 3652058 false j3)
          have HR : Hid (chkA cs.length ⟨ae, ap, ac, an, ow⟩ = 5) := chkA_bad (by simp [inB] at j3; simp [headB]; omega)
          clear i0 i1 i2 i3 j3
          go_enter Try.func34, Try.ntmps34
          go_wp2_with fail
          refine (I0.out _).mono ?_
          rintro e w' ⟨rfl, rfl⟩
          go_wp2_with fail
          refine (I1.out _).mono ?_
          rintro e w' ⟨rfl, rfl⟩
          go_wp2_with fail
          refine (I2.out _).mono ?_
          rintro e w' ⟨rfl, rfl⟩
          go_wp2_with fail
          refine (I3.out _).mono ?_
          rintro e w' ⟨rfl, rfl⟩
          go_wp2_with fail
          go_ret
          exact ⟨ret_int HR.out.symm, HB.out⟩
      · have j2 : inB ac ((cs.length : Int) - 1) = false := by simpa using i2
        have I2 := Lib.hid (in_is ac ((cs.length : Int) - 1) false j2)
        have HR : Hid (chkA cs.length ⟨ae, ap, ac, an, ow⟩ = 5) := chkA_bad (by simp [inB] at j2; simp [headB]; omega)
        clear i0 i1 i2 j2
        go_enter Try.func34, Try.ntmps34
        go_wp2_with fail
        refine (I0.out _).mono ?_
        rintro e w' ⟨rfl, rfl⟩
        go_wp2_with fail
        refine (I1.out _).mono ?_
        rintro e w' ⟨rfl, rfl⟩
        go_wp2_with fail
        refine (I2.out _).mono ?_
        rintro e w' ⟨rfl, rfl⟩
        go_wp2_with fail
        go_ret
        exact ⟨ret_int HR.out.symm, HB.out⟩
    · have j1 : inB ap 63 = false := by simpa using i1
      have I1 := Lib.hid (in_is ap 63 false j1)
      have HR : Hid (chkA cs.length ⟨ae, ap, ac, an, ow⟩ = 5) := chkA_bad (by simp [inB] at j1; simp [headB]; omega)
      clear i0 i1 j1
      go_enter Try.func34, Try.ntmps34
      go_wp2_with fail
      refine (I0.out _).mono ?_
      rintro e w' ⟨rfl, rfl⟩
      go_wp2_with fail
      refine (I1.out _).mono ?_
      rintro e w' ⟨rfl, rfl⟩
      go_wp2_with fail
      go_ret
      exact ⟨ret_int HR.out.symm, HB.out⟩
  · have j0 : inB ae 65535 = false := by simpa using i0
    have I0 := Lib.hid (in_is ae 65535 false j0)
    have HR : Hid (chkA cs.length ⟨ae, ap, ac, an, ow⟩ = 5) := chkA_bad (by simp [inB] at j0; simp [headB]; omega)
    clear i0 j0
    go_enter Try.func34, Try.ntmps34
    go_wp2_with fail
    refine (I0.out _).mono ?_
    rintro e w' ⟨rfl, rfl⟩
    go_wp2_with fail
    go_ret
    exact ⟨ret_int HR.out.symm, HB.out⟩

set_option maxHeartbeats 2000000 in
set_option maxRecDepth 100000 in
theorem svcCheckL (l : List At) (cs : List (Int × Int)) (v u : Value) (w : World) (hx : IsAts w v l) (hy : IsSps w u cs) :
    Calls Try.prog 14 #[v, u] w fun e w' => e = .returned (.int .i64 (chkL cs.length l)) ∧ Below w.heap.size w w' := by
  have HX := Lib.hid hx
  have HY := Lib.hid hy
  obtain ⟨a0, c0, rfl, hlm, -, -⟩ := hx.open
  obtain ⟨a1, c1, rfl, -, -, -⟩ := hy.open
  unfold maxLen at hlm
  clear hx hy
  by_cases hl : 65536 < l.length
  · have HR : Hid (chkL cs.length l = 2) := if_pos hl
    have hl' : (65536 : Int) < (l.length : Int) := by omega
    go_enter Try.func14, Try.ntmps14
    go_wp2_with fail
    go_ret
    exact ⟨ret_int HR.out.symm, Below.refl _ _⟩
  have hl' : ¬ (65536 : Int) < (l.length : Int) := by omega
  have HCL : Hid (chkL cs.length l = chkAs cs.length l) := if_neg hl
  go_enter Try.func14, Try.ntmps14
  go_wp2_with fail
  go_loopw [13] (fun i wr => ∃ k : Nat, i = .int .i64 k ∧ k ≤ l.length ∧ Hid (∀ j (hj : j < l.length), j < k → chkA cs.length l[j] = 0) ∧ Hid (Below w.heap.size w wr)) (fun i _ => l.length - (intOf i).toNat)
  case atStart => exact ⟨0, rfl, Nat.zero_le _, Lib.hid (fun j _ h => absurd h (Nat.not_lt_zero _)), Lib.hid (Below.refl _ _)⟩
  case round =>
    obtain ⟨k, rfl, hk, HOK, HBR⟩ := hrel
    have ek : IntKind.i64.wrap ((k : Int) + 1) = ((k + 1 : Nat) : Int) := by rw [IntKind.wrap_i64]; omega
    by_cases hkl : k < l.length
    · obtain ⟨_, _, e5, -, -, hcl⟩ := (HX.out.below HBR.out).open
      obtain ⟨b5, o5, us, rfl, hus, d0, d1, d2, d3, d4⟩ := hcl k hkl
      simp only [Value.slice.injEq, true_and] at e5
      obtain ⟨rfl, -⟩ := e5
      have HBAD : Hid (chkA cs.length l[k] ≠ 0 → chkL cs.length l = chkA cs.length l[k]) := fun h => by rw [HCL.out]; exact chkAs_bad hkl HOK.out h
      have HGO : Hid (chkA cs.length l[k] = 0 → ∀ j (hj : j < l.length), j < k + 1 → chkA cs.length l[j] = 0) := fun h j hj hjk => by
        rcases Nat.lt_succ_iff_lt_or_eq.1 hjk with h' | rfl
        · exact HOK.out j hj h'
        · exact h
      have HCA := Lib.hid (svcCheck l[k] cs us (.slice a1 cs.length c1))
      have HUS := Lib.hid hus
      obtain ⟨ua, uc, rfl⟩ := hus.sl
      clear hus hcl
      generalize l[k] = s at *
      obtain ⟨ae, ap, ac, an, ow⟩ := s
      simp only at d0 d1 d2 d3 d4
      have HCC := Lib.hid (HCA.out (wr.alloc (.cells #[.int .i64 ae, .int .i64 ap, .int .i64 ac, .int .i64 an, .slice ua ow.length uc] 29)) (HUS.out.below ((Below.refl _ _).alloc (Nat.le_refl _) _)) ((HY.out.below HBR.out).below ((Below.refl _ _).alloc (Nat.le_refl _) _)))
      obtain ⟨CK, hCK⟩ : ∃ CK, chkA cs.length ⟨ae, ap, ac, an, ow⟩ = CK := ⟨_, rfl⟩
      rw [hCK] at HBAD HGO HCC
      have HBW : Hid (Below w.heap.size w (wr.alloc (.cells #[.int .i64 ae, .int .i64 ap, .int .i64 ac, .int .i64 an, .slice ua ow.length uc] 29))) := (HBR.out.alloc HBR.out.size _)
      clear HCA hCK
      by_cases hz : CK = 0
      · have HOK2 := Lib.hid (HGO.out hz)
        have hzb : (CK == 0) = true := by simpa using hz
        clear HBAD HGO HOK hz
        go_wp2_with fail
        refine HCC.out.mono ?_
        rintro e w2 ⟨rfl, hb2⟩
        have HB2 := Lib.hid (Below.to HBW.out hb2 HBW.out.size)
        clear hb2 HCC
        go_wp2_with fail
        go_roundw
        case rel => exact ⟨k + 1, by go_num, by omega, HOK2, HB2⟩
        case measure => simp [intOf]; omega
      · have HR := Lib.hid (HBAD.out hz)
        have hzb : (CK == 0) = false := by simpa using hz
        clear HBAD HGO HOK hz
        go_wp2_with fail
        refine HCC.out.mono ?_
        rintro e w2 ⟨rfl, hb2⟩
        have HB2 := Lib.hid (Below.to HBW.out hb2 HBW.out.size)
        clear hb2 HCC
        go_wp2_with fail
        go_ret
        exact ⟨ret_int HR.out.symm, HB2.out⟩
    · obtain rfl : k = l.length := by omega
      have HR : Hid (chkL cs.length l = 0) := by show _ = _; rw [HCL.out]; exact chkAs_ok (fun j hj => HOK.out j hj hj)
      go_wp2_with fail
      go_ret
      exact ⟨ret_int HR.out.symm, HBR.out⟩

set_option maxHeartbeats 2000000 in
set_option maxRecDepth 100000 in
theorem refCheckL (l : List At) (cs : List (Int × Int)) (v u : Value) (w : World) (hx : IsAts w v l) (hy : IsSps w u cs) :
    Calls Try.prog 15 #[v, u] w fun e w' => e = .returned (.int .i64 (chkL cs.length l)) ∧ Below w.heap.size w w' := by
  have HX := Lib.hid hx
  have HY := Lib.hid hy
  obtain ⟨a0, c0, rfl, hlm, -, -⟩ := hx.open
  obtain ⟨a1, c1, rfl, -, -, -⟩ := hy.open
  unfold maxLen at hlm
  clear hx hy
  by_cases hl : 65536 < l.length
  · have HR : Hid (chkL cs.length l = 2) := if_pos hl
    have hl' : (65536 : Int) < (l.length : Int) := by omega
    go_enter Try.func15, Try.ntmps15
    go_wp2_with fail
    go_ret
    exact ⟨ret_int HR.out.symm, Below.refl _ _⟩
  have hl' : ¬ (65536 : Int) < (l.length : Int) := by omega
  have HCL : Hid (chkL cs.length l = chkAs cs.length l) := if_neg hl
  go_enter Try.func15, Try.ntmps15
  go_wp2_with fail
  go_loopw [5] (fun i wr => ∃ k : Nat, i = .int .i64 k ∧ k ≤ l.length ∧ Hid (∀ j (hj : j < l.length), j < k → chkA cs.length l[j] = 0) ∧ Hid (Below w.heap.size w wr)) (fun i _ => l.length - (intOf i).toNat)
  case atStart => exact ⟨0, rfl, Nat.zero_le _, Lib.hid (fun j _ h => absurd h (Nat.not_lt_zero _)), Lib.hid (Below.refl _ _)⟩
  case round =>
    obtain ⟨k, rfl, hk, HOK, HBR⟩ := hrel
    have ek : IntKind.i64.wrap ((k : Int) + 1) = ((k + 1 : Nat) : Int) := by rw [IntKind.wrap_i64]; omega
    by_cases hkl : k < l.length
    · obtain ⟨_, _, e5, -, -, hcl⟩ := (HX.out.below HBR.out).open
      obtain ⟨b5, o5, us, rfl, hus, d0, d1, d2, d3, d4⟩ := hcl k hkl
      simp only [Value.slice.injEq, true_and] at e5
      obtain ⟨rfl, -⟩ := e5
      have HBAD : Hid (chkA cs.length l[k] ≠ 0 → chkL cs.length l = chkA cs.length l[k]) := fun h => by rw [HCL.out]; exact chkAs_bad hkl HOK.out h
      have HGO : Hid (chkA cs.length l[k] = 0 → ∀ j (hj : j < l.length), j < k + 1 → chkA cs.length l[j] = 0) := fun h j hj hjk => by
        rcases Nat.lt_succ_iff_lt_or_eq.1 hjk with h' | rfl
        · exact HOK.out j hj h'
        · exact h
      have HCA := Lib.hid (refWrongA l[k] cs us (.slice a1 cs.length c1))
      have HUS := Lib.hid hus
      obtain ⟨ua, uc, rfl⟩ := hus.sl
      clear hus hcl
      generalize l[k] = s at *
      obtain ⟨ae, ap, ac, an, ow⟩ := s
      simp only at d0 d1 d2 d3 d4
      have HCC := Lib.hid (HCA.out wr (HUS.out.below (Below.refl _ _)) ((HY.out.below HBR.out).below (Below.refl _ _)))
      obtain ⟨CK, hCK⟩ : ∃ CK, chkA cs.length ⟨ae, ap, ac, an, ow⟩ = CK := ⟨_, rfl⟩
      rw [hCK] at HBAD HGO HCC
      have HBW : Hid (Below w.heap.size w wr) := HBR.out
      clear HCA hCK
      by_cases hz : CK = 0
      · have HOK2 := Lib.hid (HGO.out hz)
        have hzb : (CK == 0) = true := by simpa using hz
        clear HBAD HGO HOK hz
        go_wp2_with fail
        refine HCC.out.mono ?_
        rintro e w2 ⟨rfl, hb2⟩
        have HB2 := Lib.hid (Below.to HBW.out hb2 HBW.out.size)
        clear hb2 HCC
        go_wp2_with fail
        go_roundw
        case rel => exact ⟨k + 1, by go_num, by omega, HOK2, HB2⟩
        case measure => simp [intOf]; omega
      · have HR := Lib.hid (HBAD.out hz)
        have hzb : (CK == 0) = false := by simpa using hz
        clear HBAD HGO HOK hz
        go_wp2_with fail
        refine HCC.out.mono ?_
        rintro e w2 ⟨rfl, hb2⟩
        have HB2 := Lib.hid (Below.to HBW.out hb2 HBW.out.size)
        clear hb2 HCC
        go_wp2_with fail
        go_ret
        exact ⟨ret_int HR.out.symm, HB2.out⟩
    · obtain rfl : k = l.length := by omega
      have HR : Hid (chkL cs.length l = 0) := by show _ = _; rw [HCL.out]; exact chkAs_ok (fun j hj => HOK.out j hj hj)
      go_wp2_with fail
      go_ret
      exact ⟨ret_int HR.out.symm, HBR.out⟩

end Go.Proofs.Ytdhiefgbajogcaa
