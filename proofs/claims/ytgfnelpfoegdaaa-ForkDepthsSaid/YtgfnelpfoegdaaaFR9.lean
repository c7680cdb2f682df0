/-
  The law ForkDepths: its walk.
-/
import Derived.Test.YtgfnelpfoegdaaaFWj
import Derived.Test.YtgfnelpfoegdaaaForkJ
import Derived.Test.YtgfnelpfoegdaaaFR6
namespace Go.Proofs.Ytgfnelpfoegdaaa
open Go.RowKit

theorem forkF_deep {l : List Br} {k : Nat} {x : Br} (hx : l[k]? = some x) (ho : x.opn = true) (hd : depth l k = 8) : forkF l k 3 = ([], 0, 40) := by
  rw [forkF_in hx, if_neg (by omega), if_neg (by simp [ho]), if_pos (by omega)]
theorem forkF_room {l : List Br} {k : Nat} {x : Br} (hx : l[k]? = some x) (ho : x.opn = true) (hd : depth l k < 8) (hl : l.length < 256) : forkF l k 3 = (l ++ [⟨k, 3, sz x, [], true⟩], (l.length : Int), 0) := by
  rw [forkF_in hx, if_neg (by omega), if_neg (by simp [ho]), if_neg (by omega), if_neg (by omega)]

theorem natInts_zero (l : List Br) (k : Nat) (h : 0 < (natInts (chainZ l k)).length) : (natInts (chainZ l k))[0] = k := by
  obtain ⟨c, hc⟩ : ∃ c, chainZ l k = c := ⟨_, rfl⟩
  have h2 := hc
  revert h
  rw [hc]
  intro h
  cases c with
  | nil => simp [natInts] at h
  | cons a t => have := chainZ_head h2; simpa [natInts] using this
theorem natInts_dec {l : List Br} {b : Int} (hd : DecPar l b) (i : Nat) (h : i + 1 < (natInts (chainZ l b)).length) : (natInts (chainZ l b))[i + 1] < (natInts (chainZ l b))[i] := by
  have := chainZ_dec hd i (by rw [natInts_len] at h; exact h)
  simp only [natInts, List.getElem_map]
  omega

set_option maxHeartbeats 2000000 in
set_option maxRecDepth 100000 in
theorem forkDepths_any (xs : List Int) (v : Value) (which : Int) (w : World) (hx : IsInts w v xs) (hw : ∀ x ∈ xs, I64 x) (hi : I64 which) :
    Calls Try.prog 9 #[v, .int .i64 which] w fun e w' => e = .returned (.bool true) ∧ Below w.heap.size w w' := by
  have HBR := Lib.hid (branches_len xs v w hx hw)
  clear hx hw
  go_enter Try.func9, Try.ntmps9
  go_wp2_with fail
  refine HBR.out.mono ?_
  rintro e w0 ⟨v0, rfl, l, hl0, ⟨hg, hlen⟩, hb0⟩
  obtain ⟨k, hk, hkl⟩ := around_nat (n := which) (m := l.length) hg.2
  have HAR := Lib.hid (around_any which l.length hi (by have := hg.2; omega) w0)
  rw [hk] at HAR
  obtain ⟨x, hxk⟩ : ∃ x, l[k]? = some x := ⟨_, List.getElem?_eq_getElem hkl⟩
  obtain ⟨bb, off, cap, u, rfl, -, hblt, -, -, -, -, c4⟩ := hl0.at hxk
  have hd9 : depth l k ≤ 8 := (hg.1.ok hxk).d
  have hdec : DecPar l k := (hg.1.str k).dec
  obtain ⟨N, hN⟩ : ∃ N, (chainZ l k).length = N := ⟨_, rfl⟩
  have hN1 : 1 ≤ N := by have := chainZ_pos hkl; omega
  have hN9 : N ≤ 9 := by unfold depth at hd9; rw [chainZ_nat] at hN; omega
  have hdz : ((depthZ l k : Nat) : Int) = (N : Int) - 1 := by unfold depthZ; omega
  have HDZ := Lib.hid hdz
  have HDN : Hid (depth l k = N - 1) := by show _ = _; unfold depth; rw [← chainZ_nat, hN]
  have HDEC := Lib.hid hdec
  have HCL : Hid ((chainZ l k).length ≤ 1000000) := by show _ ≤ _; omega
  have HN := Lib.hid hN
  have HG := Lib.hid hg.1
  have HL0 := Lib.hid hl0
  have HB0 := Lib.hid hb0
  have HXK := Lib.hid hxk
  clear hl0 hg hb0 hxk hk hi HBR hd9 hdec hN hdz
  go_wp2_with fail
  refine HAR.out.mono ?_
  rintro e w' ⟨rfl, rfl⟩
  clear HAR
  go_wp2_with fail
  refine (forkAncestors l _ k w0 HL0.out HDEC.out HCL.out).mono ?_
  rintro e w1 ⟨v1, rfl, hv1, hb1⟩
  have hnl : (natInts (chainZ l k)).length = N := by rw [natInts_len]; exact HN.out
  obtain ⟨A, hA⟩ : ∃ A, natInts (chainZ l k) = A := ⟨_, rfl⟩
  have hdecA : ∀ i (h : i + 1 < A.length), A[i + 1] < A[i] := by subst hA; exact natInts_dec HDEC.out
  have hA0 : ∀ h : 0 < A.length, A[0] = k := by subst hA; exact natInts_zero l k
  rw [hA] at hv1 hnl
  obtain ⟨a1, cap1, rfl, -, -, hc1⟩ := hv1.open
  obtain ⟨ab, aoff, ha1, hcell0⟩ := hc1 0 (by omega)
  rw [hA0 (by omega), Nat.add_zero] at hcell0
  subst ha1
  have c41 := (hb1.cell hblt).trans c4
  have habl : ab < w1.heap.size := World.block_lt_of_cell? _ _ hcell0
  have HC1 := Lib.hid hc1
  have HDA := Lib.hid hdecA
  have HNL := Lib.hid hnl
  have HL1 := Lib.hid (HL0.out.below hb1)
  have HB1 := Lib.hid (Below.to HB0.out hb1 HB0.out.size)
  have hbl1 : bb < w1.heap.size := Nat.lt_of_lt_of_le hblt hb1.size
  rw [hnl]
  clear hv1 hb1 hc1 hdecA hA0 hnl hA c4
  have hN98 : (N : Int) - 1 ≤ 8 := by omega
  have hN0 : ((N : Int) == 0) = false := by simp; omega
  have hN8 : decide (8 < (N : Int) - 1) = false := by simp; omega
  have hwr : IntKind.i64.wrap ((N : Int) - 1) = (N : Int) - 1 := by rw [IntKind.wrap_i64]; omega
  go_wp2_with fail
  refine (forkDepth l _ k w1 HL1.out HDEC.out HCL.out).mono ?_
  rintro e w2 ⟨rfl, hb2⟩
  rw [HDZ.out]
  have c42 := (hb2.cell hbl1).trans c41
  have HL2 := Lib.hid (HL1.out.below hb2)
  have HB2 := Lib.hid (Below.to HB1.out hb2 HB1.out.size)
  have hbl2 : bb < w2.heap.size := Nat.lt_of_lt_of_le hbl1 hb2.size
  have HC2 : Hid (∀ i (h : i < A.length), w2.cell? ⟨ab, aoff + i, none⟩ = some (.int .i64 A[i])) := fun i h => by
    obtain ⟨b', o', e', hc'⟩ := HC1.out i h
    simp only [Option.some.injEq, Addr.mk.injEq, and_true] at e'
    obtain ⟨rfl, rfl⟩ := e'
    exact (hb2.cell habl).trans hc'
  clear hb2 c41 HC1 hcell0
  go_wp2_with fail
  go_loopw [8] (fun i wr => ∃ k n : Nat, i = .int .i64 k ∧ 1 ≤ k ∧ k ≤ N ∧ wr = w2.drewN n) (fun i _ => N - (intOf i).toNat)
  case atStart => exact ⟨1, 0, rfl, Nat.le_refl _, hN1, rfl⟩
  case round =>
    obtain ⟨j, n, rfl, hj1, hjN, rfl⟩ := hrel
    by_cases hlt : j < N
    · obtain ⟨i, rfl⟩ : ∃ i, j = i + 1 := ⟨j - 1, by omega⟩
      have hnA := HNL.out
      have d1 := HC2.out (i + 1) (by omega)
      have d0 := HC2.out i (by omega)
      have hde := Int.not_le.2 (HDA.out i (by omega))
      have hsub : IntKind.i64.wrap (((i + 1 : Nat) : Int) - 1) = (i : Int) := by rw [IntKind.wrap_i64]; omega
      generalize A[i + 1] = p1 at *
      generalize A[i] = p0 at *
      clear hnA
      go_wp2
      go_quiet (fail)
      go_wp2
      go_roundw
      case rel => exact ⟨i + 1 + 1, _, by go_num, by omega, by omega, rfl⟩
      case measure => simp [intOf]; omega
    · have HB3 := Lib.hid (below_drewN HB2.out n)
      have hL3 : Hid (IsBrs (w2.drewN n) (.slice (some ⟨bb, off, none⟩) l.length cap) l) := HL2.out.below (below_drewN (Below.refl _ _) n)
      have c43 := ((below_drewN (Below.refl w2.heap.size w2) n).cell hbl2).trans c42
      generalize w2.drewN n = w3 at *
      clear HC2 HNL HDA c42 hjN hj1
      obtain ⟨o, ho⟩ : ∃ o, x.opn = o := ⟨_, rfl⟩
      have HO := Lib.hid ho
      rw [ho] at c43
      clear ho
      cases o with
      | false =>
        go_wp2_with fail
        refine (lives_any _).mono ?_
        rintro e w99 ⟨rfl, hb99⟩
        go_wp2_with fail
        go_ret
        exact ⟨rfl, Below.to HB3.out hb99 HB3.out.size⟩
      | true =>
        go_wp2_with fail
        go_loopw [5, 6, 9] (fun a b d wr => ∃ (t c : Nat) (m : List Br) (y : Br), d = .int .i64 t ∧ b = .int .i64 c ∧ t ≤ 8 ∧ Hid (IsBrs wr a m) ∧ Hid (Good m) ∧ Hid (m.length ≤ 121 + t) ∧ Hid (m[c]? = some y) ∧ Hid (y.opn = true) ∧ Hid (depth m c = t) ∧ Hid (Below w.heap.size w wr)) (fun _ _ d _ => 9 - (intOf d).toNat)
        case atStart => exact ⟨N - 1, k, l, x, by go_num, rfl, by omega, hL3, HG, Lib.hid (by omega), HXK, HO, HDN, HB3⟩
        case round =>
          obtain ⟨t, c, m, y, rfl, rfl, ht, HM, HGM, HLM, HY, HOY, HDY, HB⟩ := hrel
          have hcm := (List.getElem?_eq_some_iff.1 HY.out).1
          obtain ⟨a5, cap5, rfl, -, -, -⟩ := HM.out.open
          have hml := HLM.out
          have h6 := forkFork m _ c 3 wr HM.out HGM.out (by omega)
          have HT8 : Hid ((t : Int) ≤ 8) := by show _ ≤ _; omega
          by_cases ht8 : t = 8
          · rw [forkF_deep HY.out HOY.out (by rw [HDY.out]; exact ht8)] at h6
            subst ht8
            go_wp2_with fail
            refine Calls.mono h6 ?_
            rintro e w6 ⟨v6, rfl, -, hb6⟩
            have HB6 := Lib.hid (Below.to HB.out hb6 HB.out.size)
            clear hb6 h6
            go_wp2_with fail
            refine (lives_any _).mono ?_
            rintro e w99 ⟨rfl, hb99⟩
            go_wp2_with fail
            go_ret
            exact ⟨rfl, Below.to HB6.out hb99 HB6.out.size⟩
          · rw [forkF_room HY.out HOY.out (by rw [HDY.out]; omega) (by omega)] at h6
            have HG6 : Hid (Good (m ++ [⟨c, 3, sz y, [], true⟩])) := good_fork HGM.out HY.out (by omega) (by omega) (by omega) HOY.out (by rw [HDY.out]; omega)
            have HD6 : Hid (depth (m ++ [⟨c, 3, sz y, [], true⟩]) m.length = t + 1) := by show _ = _; rw [fork_depth HY.out, HDY.out]
            have HY6 : Hid ((m ++ [(⟨c, 3, sz y, [], true⟩ : Br)])[m.length]? = some ⟨c, 3, sz y, [], true⟩) := by show _ = _; simp
            have HL6 : Hid ((m ++ [(⟨c, 3, sz y, [], true⟩ : Br)]).length ≤ 121 + (t + 1)) := by show _ ≤ _; simp; omega
            have HC6 : Hid ((chainZ (m ++ [(⟨c, 3, sz y, [], true⟩ : Br)]) (m.length : Nat)).length ≤ 1000000) := by show _ ≤ _; have := chainZ_len (l := m ++ [(⟨c, 3, sz y, [], true⟩ : Br)]) (by have := HL6.out; omega) (m.length : Nat); omega
            have hdz : ((depthZ (m ++ [(⟨c, 3, sz y, [], true⟩ : Br)]) (m.length : Nat) : Nat) : Int) = (t : Int) + 1 := by rw [depthZ_nat, HD6.out]; omega
            have HDZ6 := Lib.hid hdz
            clear hdz
            obtain ⟨mm, hmm⟩ : ∃ mm, mm = m ++ [(⟨c, 3, sz y, [], true⟩ : Br)] := ⟨_, rfl⟩
            rw [← hmm] at h6 HG6 HD6 HY6 HL6 HC6 HDZ6
            have hne8 : ((t : Int) == 8) = false := by simp; omega
            clear hmm
            go_wp2_with fail
            refine Calls.mono h6 ?_
            rintro e w6 ⟨v6, rfl, hv6, hb6⟩
            have HV6 := Lib.hid hv6
            have HB6 := Lib.hid (Below.to HB.out hb6 HB.out.size)
            clear hb6 h6 hv6
            go_wp2_with fail
            refine (forkDepth mm _ _ w6 HV6.out (HG6.out.str _).dec HC6.out).mono ?_
            rintro e w7 ⟨rfl, hb7⟩
            rw [HDZ6.out]
            have HV7 := Lib.hid (HV6.out.below hb7)
            have HB7 := Lib.hid (Below.to HB6.out hb7 HB6.out.size)
            clear hb7
            go_wp2_with fail
            go_roundw
            case rel => exact ⟨t + 1, m.length, mm, _, by go_num, rfl, by omega, HV7, HG6, HL6, HY6, Lib.hid rfl, HD6, HB7⟩
            case measure => simp [intOf]; omega

end Go.Proofs.Ytgfnelpfoegdaaa
