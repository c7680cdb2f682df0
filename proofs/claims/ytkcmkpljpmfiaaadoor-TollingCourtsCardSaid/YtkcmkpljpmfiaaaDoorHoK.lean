/-
  Package holiday: Of (the days off of a year).
-/
import Derived.Test.YtkcmkpljpmfiaaaDoorHoJ
namespace Go.Proofs.YtkcmkpljpmfiaaaDoor
open Go.RowKit

theorem zb2 : (Tryd.prog.info? 89).map (fun i => (i.zero, i.size, i.bytes)) = some (some (.agg #[.int .i64 0, .int .i64 0]), 2, 16) := by kernel_rfl

theorem wp_cut {P : Program} {c : Code} {Kc K : Act → World → Prop} {Q' : Exit → Act → World → Prop} {a : Act} {w : World} (hK : ∀ a w, Kc a w → K a w) (h : c.wp P (Exit.then Kc Q') a w) : c.wp P (Exit.then K Q') a w :=
  Code.wp_mono (fun e a w hq => by cases e <;> first | exact hK _ _ hq | exact hq) h

set_option maxHeartbeats 2000000 in
set_option maxRecDepth 100000 in
theorem ofYear_any (hs : List Hol) (v : Value) (y : Int) (w : World) (hv : IsHos w v hs) (hi : ∀ h ∈ hs, HolIn h) (hl : hs.length ≤ 10) (hT : Tabs w) (hy : 2024 ≤ y ∧ y ≤ 2030) :
    Calls Tryd.prog 45 #[v, .int .i64 y] w fun e w' => ∃ v', e = .returned v' ∧ ∃ l', l'.Perm (ofF hs y 0) ∧ w'.ownsRow w.heap.size 89 2 v' l'.length (enC spRow l') ∧ Below w.heap.size w w' := by
  obtain ⟨a, cap, rfl, -, -, hc⟩ := hv.open
  have HC := Lib.hid hc
  have HI := Lib.hid hi
  have HTT := Lib.hid hT
  have HKI := Lib.hid (kinds_any w)
  have HWI := Lib.hid within_any
  have HWK := Lib.hid weekday_any
  have HWY : Hid (∀ w7, Calls Tryd.prog 32 #[.int .i64 y, .int .i64 1, .int .i64 9999] w7 fun e w' => e = .returned (.bool true) ∧ w' = w7) := fun w7 => by
    have h := within_any y 1 9999 w7
    rwa [show decide (1 ≤ y ∧ y ≤ 9999) = true by simp; omega] at h
  obtain ⟨hy1, hy2⟩ := hy
  clear hv hc hi hT
  go_enter Tryd.func45, Tryd.ntmps45
  go_wp2_with fail
  refine HKI.out.mono ?_
  rintro e w1 ⟨rfl, hb1⟩
  obtain ⟨W1, hW1⟩ : ∃ W, W = w1.alloc (.cells kindRow 102) := ⟨_, rfl⟩
  obtain ⟨A, hA⟩ : ∃ A, A = w1.heap.size := ⟨_, rfl⟩
  have hbA : Below w.heap.size w W1 := by rw [hW1]; exact Below.to hb1 ((Below.refl _ _).alloc (Nat.le_refl _) _) hb1.size
  have hrowA : W1.heap[A]? = some (.cells kindRow 102 (0, 0)) := by rw [hW1, hA]; exact alloc_new _ _
  have hAlt : A < W1.heap.size := (Array.getElem?_eq_some_iff.1 hrowA).1
  have HBA := Lib.hid hbA
  have HRA : Hid (∀ w', Below W1.heap.size W1 w' → w'.heap[A]? = some (.cells kindRow 102 (0, 0))) := fun w' hb => (hb.block A hAlt).trans hrowA
  have HW1 := Lib.hid hW1
  have HA := Lib.hid hA
  have HT1 : Hid (Tabs W1) := HTT.out.below hbA
  unfold kindRow
  have HB1 := Lib.hid hb1
  clear hb1 HKI hW1 hA hbA hrowA hAlt HTT
  go_wp2_with fail
  have HE := HW1.out
  unfold kindRow at HE
  rw [← HE, ← HA.out]
  clear HE
  go_loopw [5, 14] (fun o i wr => ∃ (k : Nat), i = .int .i64 k ∧ k ≤ hs.length ∧ Hid (wr.ownsRow W1.heap.size 89 2 o (ofF (hs.take k) y 0).length (enC spRow (ofF (hs.take k) y 0))) ∧ W1.heap.size ≤ wr.heap.size ∧ Hid (Below W1.heap.size W1 wr)) (fun _ i _ => hs.length - (intOf i).toNat)
  case atStart => exact ⟨0, rfl, Nat.zero_le _, Lib.hid (World.ownsRow_nil _ _ _ _), Nat.le_refl _, Lib.hid (Below.refl _ _)⟩
  case round =>
    obtain ⟨k, rfl, hkl, HO, hsz, HB⟩ := hrel
    by_cases hlt : (k : Int) < (hs.length : Int)
    · have hkn : k < hs.length := by omega
      have HTK := Lib.hid (ofF_take hs y 0 k hkn)
      obtain ⟨bb, off, rfl, hbb, hr0⟩ := HC.out k hkn
      have hr1 := range_below' hr0 (Below.to HBA.out HB.out HBA.out.size) hbb
      have hhi := HI.out hs[k] (List.getElem_mem hkn)
      obtain ⟨h, hh⟩ : ∃ h, hs[k] = h := ⟨_, rfl⟩
      rw [hh] at hr1 hhi HTK
      have HNM := Lib.hid (fun w7 (h7 : Tabs w7) => nomH_any h hhi y w7 h7 ⟨hy1, hy2⟩)
      have hni := nomH_in hhi ⟨hy1, hy2⟩
      have hk1 := hhi.k1
      have hk4 := hhi.k4
      have hv0 := hhi.v0
      have hv2 := hhi.v2
      obtain ⟨kd, mo, dm, wk, nt, of, mv⟩ := h
      unfold hoE at hr1 HNM
      simp only at hr1 HNM hk1 hk4 hv0 hv2
      have HR1 := Lib.hid hr1
      obtain ⟨R, hR⟩ : ∃ R, R = wr.heap.size := ⟨_, rfl⟩
      obtain ⟨W2, hW2⟩ : ∃ W, W = wr.alloc (.cells #[.int .i64 kd, .int .i64 mo, .int .i64 dm, .int .i64 wk, .int .i64 nt, .int .i64 of, .int .i64 mv, .int .i64 1, .int .i64 9999] 48) := ⟨_, rfl⟩
      have hrow : W2.heap[R]? = some (.cells #[.int .i64 kd, .int .i64 mo, .int .i64 dm, .int .i64 wk, .int .i64 nt, .int .i64 of, .int .i64 mv, .int .i64 1, .int .i64 9999] 48 (0, 0)) := by rw [hW2, hR]; exact alloc_new _ _
      have hB2 : Below W1.heap.size W1 W2 := by rw [hW2]; exact Below.to HB.out ((Below.refl _ _).alloc (Nat.le_refl _) _) HB.out.size
      have HO2 : Hid (∀ o, wr.ownsRow W1.heap.size 89 2 o (ofF (hs.take k) y 0).length (enC spRow (ofF (hs.take k) y 0)) → W2.ownsRow W1.heap.size 89 2 o (ofF (hs.take k) y 0).length (enC spRow (ofF (hs.take k) y 0))) := fun o ho => by rw [hW2]; exact owns_below ho ((Below.refl _ _).alloc (Nat.le_refl _) _)
      have HB2 := Lib.hid hB2
      have HRW := Lib.hid hrow
      have HW2 := Lib.hid hW2
      have HRR := Lib.hid hR
      clear hr0 hr1 hbb hhi hrow hB2 hW2 hR hh
      obtain ⟨⟨D, ok⟩, hNO⟩ : ∃ D, nomH ⟨kd, mo, dm, wk, nt, of, mv⟩ y = D := ⟨_, rfl⟩
      rw [hNO] at HNM hni
      simp only at hni
      have HNO := Lib.hid hNO
      clear hNO
      go_wp2_with (first
        | (refine wpList_load_mid rfl 48 _ rfl bb (off + k * 9) rfl [.int .i64 kd, .int .i64 mo, .int .i64 dm, .int .i64 wk, .int .i64 nt, .int .i64 of, .int .i64 mv, .int .i64 1, .int .i64 9999] _ HR1.out Tryd.underlying48 rfl (by rw [infoHol]; rfl) ?_)
        | (go_at_call 32; refine (HWY.out _).mono ?_; rintro e w9 ⟨rfl, h9⟩; obtain rfl := h9.symm))
      rw [← HW2.out, ← HRR.out]
      obtain ⟨Kc, hQc⟩ : ∃ Kc : Act → World → Prop, Kc = fun a' w' => ∃ x15 x16 x17 x18 x19 x20 x21 x22 x23 x24 x25 x26 x27 x28 x29 x30 x31 x32 x33 x34 x35 x36 x37 x38 x39 x40 x41 x42 x43 x44 x45 x46 x47 x48 x49 x50 x51 x52 x53 x54 x55 x56 x57, a' = { tmps := #[.slice (some ⟨bb, off, none⟩) hs.length cap, .int .i64 y, undef, undef, .slice none 0 0, u5, .pointer (some ⟨A, 0, none⟩), .int .i64 k, .pointer (some ⟨R, 0, none⟩), .int .i64 D, .bool ok, .agg #[.func (.func 58) #[] #[], .func (.func 59) #[] #[], .func (.func 61) #[] #[], .func (.func 62) #[] #[], .func (.func 65) #[] #[], .func (.func 66) #[] #[], .func (.func 67) #[] #[], .func (.func 68) #[] #[]], .slice (some ⟨bb, off, none⟩) hs.length cap, .int .i64 hs.length, .int .i64 k, x15, x16, x17, x18, x19, x20, x21, x22, x23, x24, x25, x26, x27, x28, x29, x30, x31, x32, x33, x34, x35, x36, x37, x38, x39, x40, x41, x42, x43, x44, x45, x46, x47, x48, x49, x50, x51, x52, x53, x54, x55, x56, x57, undef, undef, undef], defers := [] } ∧ Below W2.heap.size W2 w' := ⟨_, rfl⟩
      have HQ := Lib.hid hQc
      clear hQc
      refine wp_cut (Kc := Kc) ?_ ?_
      · intro a7 w3 hq7
        rw [HQ.out] at hq7
        obtain ⟨x15, x16, x17, x18, x19, x20, x21, x22, x23, x24, x25, x26, x27, x28, x29, x30, x31, x32, x33, x34, x35, x36, x37, x38, x39, x40, x41, x42, x43, x44, x45, x46, x47, x48, x49, x50, x51, x52, x53, x54, x55, x56, x57, rfl, hb3⟩ := hq7
        dsimp only
        have HB3 := Lib.hid (Below.to HB2.out hb3 HB2.out.size)
        have HO3 : Hid (w3.ownsRow W1.heap.size 89 2 u5 (ofF (hs.take k) y 0).length (enC spRow (ofF (hs.take k) y 0))) := owns_below (HO2.out u5 HO.out) hb3
        have HT3 := HT1.out.below HB3.out
        have hR2 := (hb3.block R (Array.getElem?_eq_some_iff.1 HRW.out).1).trans HRW.out
        have c6 : w3.cell? ⟨R, 6, none⟩ = some (.int .i64 mv) := by simp [World.cell?, hR2]
        have hdy : dayH ⟨kd, mo, dm, wk, nt, of, mv⟩ y = D + movF mv D := by unfold dayH; rw [HNO.out]
        have htk := HTK.out
        rw [HNO.out] at htk
        obtain ⟨mm, rfl⟩ := Int.eq_ofNat_of_zero_le hv0
        obtain ⟨wd, hwd⟩ := Int.eq_ofNat_of_zero_le (by omega : 0 ≤ D % 7)
        have hmm : mm < 3 := by omega
        have hwd7 : wd < 7 := by omega
        have htb : w3.cell? ⟨0, mm * 7 + wd, none⟩ = some (.int .i64 (movF mm D)) := by
          have h := HT3.mov (mm * 7 + wd) (.int .i64 (movF mm D)) (by
            unfold movF
            rw [hwd, Int.toNat_natCast, Int.toNat_natCast, List.getElem?_map, List.getD_eq_getElem?_getD, List.getElem?_eq_getElem (by show _ < 21; omega)]
            rfl)
          rwa [Nat.zero_add] at h
        have hmi := movF_in mm D
        obtain ⟨M, hM⟩ : ∃ M, movF mm D = M := ⟨_, rfl⟩
        rw [hM] at htb hmi hdy
        rw [hdy, Nat.zero_add] at htk
        have HTK2 := Lib.hid htk
        clear HTK HNM HNO HT3 hR2 hdy hM HR1 HRW htk hb3
        cases ok
        · have HO9 : Hid (w3.ownsRow W1.heap.size 89 2 u5 (ofF (hs.take (k + 1)) y 0).length (enC spRow (ofF (hs.take (k + 1)) y 0))) := by
            show World.ownsRow _ _ _ _ _ _ _
            rw [HTK2.out, if_neg (by simp), List.append_nil]
            exact HO3.out
          clear HO HO2 HO3 HTK2
          go_wp2_with fail
          go_roundw
          case rel => exact ⟨k + 1, by go_num, by omega, HO9, HB3.out.size, HB3⟩
          case measure => simp [intOf]; omega
        · have hD7 := hni.2.2 rfl
          obtain ⟨hn1, hn2, -⟩ := hni
          have hq : IntKind.i64.wrap (D + M) = D + M := wrI (by omega)
          have HWD : Hid (∀ w7, Calls Tryd.prog 32 #[.int .i64 (D + M), .int .i64 0, .int .i64 3652058] w7 fun e w' => e = .returned (.bool true) ∧ w' = w7) := fun w7 => by
            have h := within_any (D + M) 0 3652058 w7
            rwa [show decide (0 ≤ D + M ∧ D + M ≤ 3652058) = true by simp; omega] at h
          have HWK2 : Hid (∀ w7, Calls Tryd.prog 26 #[.int .i64 D] w7 fun e w' => e = .returned (.int .i64 (wd : Int)) ∧ w' = w7) := fun w7 => by
            have h := weekday_any D w7 (by omega)
            rwa [hwd] at h
          have hmmI : (mm : Int) < 3 := by omega
          have hwdI : (wd : Int) < 7 := by omega
          have HLIT : Hid (Rd (w3.drew.alloc (.cells #[.int .i64 (D + M), .int .i64 k] 89)) (.slice (some ⟨w3.heap.size, 0, none⟩) 1 1) 2 1 (spRow (D + M, (k : Int)))) := Rd.lit w3.drew #[.int .i64 (D + M), .int .i64 k] 89 2 1 rfl (by unfold maxLen; omega)
          have hbl : Below w3.heap.size w3 (w3.drew.alloc (.cells #[.int .i64 (D + M), .int .i64 k] 89)) := (Below.refl _ _).drew.alloc (Nat.le_refl _) _
          have HB4 : Hid (Below W1.heap.size W1 (w3.drew.alloc (.cells #[.int .i64 (D + M), .int .i64 k] 89))) := Below.to HB3.out hbl HB3.out.size
          have HO4 : Hid ((w3.drew.alloc (.cells #[.int .i64 (D + M), .int .i64 k] 89)).ownsRow W1.heap.size 89 2 u5 (ofF (hs.take k) y 0).length (enC spRow (ofF (hs.take k) y 0))) := owns_below HO3.out hbl
          have hln : Hid ((ofF (hs.take k) y 0).length ≤ 10) := by
            show _ ≤ _
            have h1 := ofF_len (hs.take k) y 0
            have h2 := List.length_take_le k hs
            omega
          clear hwd hbl HO HO2 HO3
          go_wp2_with fail
          go_region_law
            (go_simp
             go_at_call 26
             refine (HWK2.out _).mono ?_
             rintro e w9 ⟨rfl, h9⟩
             obtain rfl := h9.symm)
          all_goals
            go_wp2_with (first
              | (go_at_call 32; refine (HWD.out _).mono ?_; rintro e w9 ⟨rfl, h9⟩; obtain rfl := h9.symm)
              | (at_builtin; refine wpList_append_rd rfl _ _ 86 rfl W1.heap.size 89 _ 2 16 Tryd.underlying86 zb2 rfl (by decide) u5 (ofF (hs.take k) y 0).length (enC spRow (ofF (hs.take k) y 0)) rfl HO4.out _ 1 (spRow (D + M, (k : Int))) rfl HLIT.out (spRow_one _) ?b1 ?b2 ?b3 ?_))
            case b1 => have := hln.out; unfold maxLen; omega
            case b2 => have := hln.out; omega
            case b3 => exact HB4.out.size
            intro v8 w8 hv8 hg8
            have HB8 := Lib.hid (below_append HB4.out HO4.out hg8 HB4.out.size)
            have HO8 : Hid (w8.ownsRow W1.heap.size 89 2 v8 (ofF (hs.take (k + 1)) y 0).length (enC spRow (ofF (hs.take (k + 1)) y 0))) := by
              show World.ownsRow _ _ _ _ _ _ _
              rw [HTK2.out, if_pos trivial, List.length_append, List.length_singleton, enC_append, enC_single]
              exact hv8
            clear hv8 hg8 HO4 HB4 HLIT
            go_wp2_with fail
            go_roundw
            case rel => exact ⟨k + 1, by go_num, by omega, HO8, HB8.out.size, HB8⟩
            case measure => simp [intOf]; omega
      · have hrA := HRA.out W2 HB2.out
        unfold kindRow at hrA
        have hrR := HRW.out
        have c0 : W2.cell? ⟨R, 0, none⟩ = some (.int .i64 kd) := by simp [World.cell?, hrR]
        have c1 : W2.cell? ⟨R, 1, none⟩ = some (.int .i64 mo) := by simp [World.cell?, hrR]
        have c2 : W2.cell? ⟨R, 2, none⟩ = some (.int .i64 dm) := by simp [World.cell?, hrR]
        have c3 : W2.cell? ⟨R, 3, none⟩ = some (.int .i64 wk) := by simp [World.cell?, hrR]
        have c4 : W2.cell? ⟨R, 4, none⟩ = some (.int .i64 nt) := by simp [World.cell?, hrR]
        have c5 : W2.cell? ⟨R, 5, none⟩ = some (.int .i64 of) := by simp [World.cell?, hrR]
        have c6 : W2.cell? ⟨R, 6, none⟩ = some (.int .i64 mv) := by simp [World.cell?, hrR]
        have c7 : W2.cell? ⟨R, 7, none⟩ = some (.int .i64 1) := by simp [World.cell?, hrR]
        have c8 : W2.cell? ⟨R, 8, none⟩ = some (.int .i64 9999) := by simp [World.cell?, hrR]
        have HND := Lib.hid (HNM.out W2.drew (HT1.out.below HB2.out.drew))
        have HBD : Hid (Below W2.heap.size W2 W2.drew) := (Below.refl _ _).drew
        have HA0 := Lib.hid hrA
        clear hrA hrR
        rcases (by omega : kd = 1 ∨ kd = 2 ∨ kd = 3 ∨ kd = 4) with rfl | rfl | rfl | rfl
        · have hz : IntKind.i64.wrap 0 = 0 := by decide
          have a1 : W2.cell? ⟨A, 1, none⟩ = some (.func (.func 59) #[] #[]) := by simp [World.cell?, HA0.out]
          have HNE : Hid (Calls Tryd.prog 59 _ W2.drew _) := HND.out
          go_region_law
            (go_simp
             go_at_call 59
             refine HNE.out.mono ?_
             rintro e w3 ⟨rfl, hb3⟩
             have HB3 := Lib.hid (Below.to HBD.out hb3 HBD.out.size))
          all_goals
            show Kc _ _
            rw [HQ.out]
            refine ⟨_, _, _, _, _, _, _, _, _, _, _, _, _, _, _, _, _, _, _, _, _, _, _, _, _, _, _, _, _, _, _, _, _, _, _, _, _, _, _, _, _, _, _, rfl, HB3.out⟩
        · have hz : IntKind.i64.wrap 1 = 1 := by decide
          have a1 : W2.cell? ⟨A, 3, none⟩ = some (.func (.func 62) #[] #[]) := by simp [World.cell?, HA0.out]
          have HNE : Hid (Calls Tryd.prog 62 _ W2.drew _) := HND.out
          go_region_law
            (go_simp
             go_at_call 62
             refine HNE.out.mono ?_
             rintro e w3 ⟨rfl, hb3⟩
             have HB3 := Lib.hid (Below.to HBD.out hb3 HBD.out.size))
          all_goals
            show Kc _ _
            rw [HQ.out]
            refine ⟨_, _, _, _, _, _, _, _, _, _, _, _, _, _, _, _, _, _, _, _, _, _, _, _, _, _, _, _, _, _, _, _, _, _, _, _, _, _, _, _, _, _, _, rfl, HB3.out⟩
        · have hz : IntKind.i64.wrap 2 = 2 := by decide
          have a1 : W2.cell? ⟨A, 5, none⟩ = some (.func (.func 66) #[] #[]) := by simp [World.cell?, HA0.out]
          have HNE : Hid (Calls Tryd.prog 66 _ W2.drew _) := HND.out
          go_region_law
            (go_simp
             go_at_call 66
             refine HNE.out.mono ?_
             rintro e w3 ⟨rfl, hb3⟩
             have HB3 := Lib.hid (Below.to HBD.out hb3 HBD.out.size))
          all_goals
            show Kc _ _
            rw [HQ.out]
            refine ⟨_, _, _, _, _, _, _, _, _, _, _, _, _, _, _, _, _, _, _, _, _, _, _, _, _, _, _, _, _, _, _, _, _, _, _, _, _, _, _, _, _, _, _, rfl, HB3.out⟩
        · have hz : IntKind.i64.wrap 3 = 3 := by decide
          have a1 : W2.cell? ⟨A, 7, none⟩ = some (.func (.func 68) #[] #[]) := by simp [World.cell?, HA0.out]
          have HNE : Hid (Calls Tryd.prog 68 _ W2.drew _) := HND.out
          go_region_law
            (go_simp
             go_at_call 68
             refine HNE.out.mono ?_
             rintro e w3 ⟨rfl, hb3⟩
             have HB3 := Lib.hid (Below.to HBD.out hb3 HBD.out.size))
          all_goals
            show Kc _ _
            rw [HQ.out]
            refine ⟨_, _, _, _, _, _, _, _, _, _, _, _, _, _, _, _, _, _, _, _, _, _, _, _, _, _, _, _, _, _, _, _, _, _, _, _, _, _, _, _, _, _, _, rfl, HB3.out⟩
    · have hke : k = hs.length := by omega
      have HO9 : Hid (wr.ownsRow W1.heap.size 89 2 u5 (ofF hs y 0).length (enC spRow (ofF hs y 0))) := by
        have h := HO.out
        rw [hke, List.take_length] at h
        exact h
      have HS := Lib.hid (sortNam W1.heap.size 89 u5 (ofF hs y 0) wr HO9.out (by have := ofF_len hs y 0; omega))
      have HLT : Hid (∀ b, u5.ownBlock = some b → W1.heap.size ≤ b) := fun b hb => (HO9.out.lt b hb).1
      have HBW := Lib.hid (Below.to HBA.out HB.out HBA.out.size)
      clear HO HO9
      go_wp2_with fail
      refine HS.out.mono ?_
      rintro e w8 ⟨rfl, l', hp, ho, hg⟩
      have HR : Hid (∃ l', l'.Perm (ofF hs y 0) ∧ w8.ownsRow w.heap.size 89 2 u5 l'.length (enC spRow l') ∧ Below w.heap.size w w8) := ⟨l', hp, owns_mono ho HBA.out.size, HBW.out.grown hg HBW.out.size (fun j hj => Nat.le_trans HBA.out.size (HLT.out j hj))⟩
      clear hp ho hg HS
      go_wp2_with fail
      go_ret
      exact ⟨_, rfl, HR.out⟩

end Go.Proofs.YtkcmkpljpmfiaaaDoor
