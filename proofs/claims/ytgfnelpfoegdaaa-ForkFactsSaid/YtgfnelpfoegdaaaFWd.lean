/-
  Contracts of check and Check, of the program.
-/
import Derived.Test.YtgfnelpfoegdaaaFWc
namespace Go.Proofs.Ytgfnelpfoegdaaa
open Go.RowKit

section
variable {l : List Br} {i : Nat} {x : Br}
theorem wrongF_5a (h : x.parent < -1 ∨ (i : Int) ≤ x.parent ∨ ¬ (0 ≤ x.court ∧ x.court < 16)) : wrongF l i x = 5 := by unfold wrongF; rw [if_pos h]
theorem wrongF_5b (h1 : ¬ (x.parent < -1 ∨ (i : Int) ≤ x.parent ∨ ¬ (0 ≤ x.court ∧ x.court < 16))) (h : x.at_ < 0 ∨ most l x < x.at_) : wrongF l i x = 5 := by
  unfold wrongF; rw [if_neg h1, if_pos h]
theorem wrongF_40 (h1 : ¬ (x.parent < -1 ∨ (i : Int) ≤ x.parent ∨ ¬ (0 ≤ x.court ∧ x.court < 16))) (h2 : ¬ (x.at_ < 0 ∨ most l x < x.at_)) (h : 8 < depth l i) : wrongF l i x = 40 := by
  unfold wrongF; rw [if_neg h1, if_neg h2, if_pos h]
theorem wrongF_2 (h1 : ¬ (x.parent < -1 ∨ (i : Int) ≤ x.parent ∨ ¬ (0 ≤ x.court ∧ x.court < 16))) (h2 : ¬ (x.at_ < 0 ∨ most l x < x.at_)) (h3 : ¬ 8 < depth l i) (h : 65536 < sz x) : wrongF l i x = 2 := by
  unfold wrongF; rw [if_neg h1, if_neg h2, if_neg h3, if_pos h]
theorem wrongF_11 (h1 : ¬ (x.parent < -1 ∨ (i : Int) ≤ x.parent ∨ ¬ (0 ≤ x.court ∧ x.court < 16))) (h2 : ¬ (x.at_ < 0 ∨ most l x < x.at_)) (h3 : ¬ 8 < depth l i) (h4 : ¬ 65536 < sz x)
    (h : (x.opn = true ∧ popen l x = false) ∨ (x.opn = false ∧ x.parent < 0)) : wrongF l i x = 11 := by
  unfold wrongF; rw [if_neg h1, if_neg h2, if_neg h3, if_neg h4, if_pos h]
theorem wrongF_0 (h1 : ¬ (x.parent < -1 ∨ (i : Int) ≤ x.parent ∨ ¬ (0 ≤ x.court ∧ x.court < 16))) (h2 : ¬ (x.at_ < 0 ∨ most l x < x.at_)) (h3 : ¬ 8 < depth l i) (h4 : ¬ 65536 < sz x)
    (h : ¬ ((x.opn = true ∧ popen l x = false) ∨ (x.opn = false ∧ x.parent < 0))) : wrongF l i x = 0 := by
  unfold wrongF; rw [if_neg h1, if_neg h2, if_neg h3, if_neg h4, if_neg h]

theorem OkTo.dec (h : OkTo l i) (hx : l[i]? = some x) (h1 : ¬ x.parent < -1) (h2 : ¬ (i : Int) ≤ x.parent) : DecPar l i := fun j y hj hy => by
  by_cases e : j = i
  · subst e
    rw [hx] at hy
    cases hy
    omega
  · have := h j y (by omega) hy
    exact ⟨this.p1, this.p2⟩
end

/-- What the call has put into its own block. -/
def copied (par crt at_ : Int) (u : Value) (o : Bool) : Array Value := #[.int .i64 par, .int .i64 crt, .int .i64 at_, u, .bool o]

set_option maxHeartbeats 4000000 in
set_option maxRecDepth 100000 in
theorem forkCheck1 (l : List Br) (v : Value) (k : Nat) (x : Br) (w : World) (hl : IsBrs w v l) (hx : l[k]? = some x) (hlen : l.length ≤ 1000) (hok : OkTo l k) (hown : x.own.length ≤ 1000000) :
    Calls Try.prog 41 #[v, .int .i64 k] w fun e w' => e = .returned (.int .i64 (wrongF l k x)) ∧ Below w.heap.size w w' := by
  have HL := Lib.hid hl
  obtain ⟨ad, cap0, hv, hl63, -, hc⟩ := hl.open
  subst hv
  unfold maxLen at hl63
  obtain ⟨hk, hxx⟩ := List.getElem?_eq_some_iff.1 hx
  obtain ⟨bb, off, u, ha, hu, c0, c1, c2, c3, c4⟩ := hc k hk
  subst ha
  rw [hxx] at c0 c1 c2 c4 hu
  obtain ⟨ua, uc, rfl, -, -, -⟩ := hu.open
  have HC := Lib.hid hc
  clear hc hl hu hxx
  obtain ⟨par, crt, at_, own, opn⟩ := x
  simp only at c0 c1 c2 c3 c4 hown
  obtain ⟨W1, hW1⟩ : ∃ W1, W1 = w.alloc (.cells (copied par crt at_ (.slice ua own.length uc) opn) 26) := ⟨_, rfl⟩
  have hb1 : Below w.heap.size w W1 := by rw [hW1]; exact (Below.refl _ _).alloc (Nat.le_refl _) _
  have hbx : ∀ o, W1.cell? ⟨w.heap.size, o, none⟩ = (copied par crt at_ (.slice ua own.length uc) opn)[o]? := by rw [hW1]; exact cells_alloc w _ _
  have hs1 : w.heap.size < W1.heap.size := by rw [hW1]; simp
  have HW1 : Hid (W1 = w.alloc (.cells #[.int .i64 par, .int .i64 crt, .int .i64 at_, .slice ua own.length uc, .bool opn] 26)) := hW1
  have HB1 := Lib.hid hb1
  by_cases hp1 : par < -1
  · have hw : wrongF l k ⟨par, crt, at_, own, opn⟩ = 5 := wrongF_5a (.inl hp1)
    rw [hw]
    rw [hW1] at HB1
    clear hbx hb1 hW1 hs1 hw
    go_enter Try.func41, Try.ntmps41
    go_wp2_with fail
    go_ret
    exact ⟨rfl, HB1.out⟩
  by_cases hp2 : (k : Int) ≤ par
  · have hw : wrongF l k ⟨par, crt, at_, own, opn⟩ = 5 := wrongF_5a (.inr (.inl hp2))
    rw [hw]
    rw [hW1] at HB1
    clear hbx hb1 hW1 hs1 hw
    go_enter Try.func41, Try.ntmps41
    go_wp2_with fail
    go_ret
    exact ⟨rfl, HB1.out⟩
  by_cases hcr : 0 ≤ crt ∧ crt < 16
  case neg =>
    have hw : wrongF l k ⟨par, crt, at_, own, opn⟩ = 5 := wrongF_5a (.inr (.inr hcr))
    rw [hw]
    have hcd : decide (0 ≤ crt ∧ crt < 16) = false := by simpa using hcr
    clear hbx hb1 hW1 hs1 hw hcr
    go_enter Try.func41, Try.ntmps41
    go_wp2_with fail
    refine (court_any _ _).mono ?_
    rintro e w' ⟨rfl, rfl⟩
    go_wp2_with fail
    go_ret
    rw [HW1.out] at HB1
    exact ⟨rfl, HB1.out⟩
  case pos =>
    have H1 : Hid (¬ (par < -1 ∨ (k : Int) ≤ par ∨ ¬ (0 ≤ crt ∧ crt < 16))) := (by show ¬ _; omega)
    have HX := Lib.hid hx
    have HDP := Lib.hid (hok.dec hx hp1 hp2)
    have HCL : Hid ((chainZ l k).length ≤ 1000000) := (by have := chainZ_len hlen (k : Int); show _ ≤ _; omega)
    have HOK := Lib.hid hok
    have hcd : decide (0 ≤ crt ∧ crt < 16) = true := by simp; omega
    have d0 : W1.cell? ⟨w.heap.size, 0, none⟩ = some (.int .i64 par) := hbx 0
    have d2 : W1.cell? ⟨w.heap.size, 2, none⟩ = some (.int .i64 at_) := hbx 2
    have d4 : W1.cell? ⟨w.heap.size, 4, none⟩ = some (.bool opn) := hbx 4
    have HL1 := Lib.hid (HL.out.below hb1)
    have HBW := Lib.hid hb1
    have HS1 := Lib.hid hs1
    clear hbx hb1 hW1 hcr hx hok hs1
    -- HERE
    by_cases hpn : par < 0
    · have HM : Hid (most l ⟨par, crt, at_, own, opn⟩ = 0) := if_pos hpn
      have HP : Hid (popen l ⟨par, crt, at_, own, opn⟩ = true) := if_pos hpn

      by_cases ha1 : at_ < 0
      · have hw : wrongF l k ⟨par, crt, at_, own, opn⟩ = 5 := wrongF_5b H1.out (.inl ha1)
        rw [hw]
        clear hw
        go_enter Try.func41, Try.ntmps41
        go_wp2_with fail
        rw [← HW1.out]
        refine (court_any _ _).mono ?_
        rintro e w' ⟨rfl, rfl⟩
        go_wp2_with fail
        go_ret
        exact ⟨rfl, HB1.out⟩
      by_cases ha2 : 0 < at_
      · have hw : wrongF l k ⟨par, crt, at_, own, opn⟩ = 5 := wrongF_5b H1.out (.inr (by rw [HM.out]; exact ha2))
        rw [hw]
        clear hw
        go_enter Try.func41, Try.ntmps41
        go_wp2_with fail
        rw [← HW1.out]
        refine (court_any _ _).mono ?_
        rintro e w' ⟨rfl, rfl⟩
        go_wp2_with fail
        go_ret
        exact ⟨rfl, HB1.out⟩
      have H2 : Hid (¬ (at_ < 0 ∨ most l ⟨par, crt, at_, own, opn⟩ < at_)) := (by show ¬ _; rw [HM.out]; omega)
      have ha0 : Hid (0 ≤ at_) := (by show _ ≤ _; omega)
      have hszb : Hid (sz ⟨par, crt, at_, own, opn⟩ ≤ 9000000000000000000) := (by show at_ + (own.length : Int) ≤ _; omega)
      by_cases hd : 8 < depth l k
      · have hw : wrongF l k ⟨par, crt, at_, own, opn⟩ = 40 := wrongF_40 H1.out H2.out hd
        rw [hw]
        clear hw
        have hd' : (8 : Int) < (depth l k : Int) := by omega
        clear hd
        go_enter Try.func41, Try.ntmps41
        go_wp2_with fail
        rw [← HW1.out]
        refine (court_any _ _).mono ?_
        rintro e w' ⟨rfl, rfl⟩
        go_wp2_with fail
        refine (forkDepth l _ k _ (HL1.out.below (Below.refl W1.heap.size W1)) HDP.out HCL.out).mono ?_
        rintro e w3 ⟨rfl, hb3⟩
        rw [depthZ_nat]
        have HB31 := Lib.hid (Below.to (Below.refl W1.heap.size W1) hb3 (Nat.le_refl W1.heap.size))
        have HB3 := Lib.hid (Below.to HB1.out HB31.out (Nat.le_of_lt HS1.out))
        have k0 := (HB31.out.cell HS1.out).trans d0
        have k4 := (HB31.out.cell HS1.out).trans d4
        have HL3 := Lib.hid (HL1.out.below HB31.out)
        clear hb3
        go_wp2_with fail
        go_ret
        exact ⟨rfl, HB3.out⟩
      have hd' : ¬ (8 : Int) < (depth l k : Int) := by omega
      have HD := Lib.hid hd
      clear hd
      by_cases hs : 65536 < sz ⟨par, crt, at_, own, opn⟩
      · have hw : wrongF l k ⟨par, crt, at_, own, opn⟩ = 2 := wrongF_2 H1.out H2.out HD.out hs
        rw [hw]
        clear hw
        go_enter Try.func41, Try.ntmps41
        go_wp2_with fail
        rw [← HW1.out]
        refine (court_any _ _).mono ?_
        rintro e w' ⟨rfl, rfl⟩
        go_wp2_with fail
        refine (forkDepth l _ k _ (HL1.out.below (Below.refl W1.heap.size W1)) HDP.out HCL.out).mono ?_
        rintro e w3 ⟨rfl, hb3⟩
        rw [depthZ_nat]
        have HB31 := Lib.hid (Below.to (Below.refl W1.heap.size W1) hb3 (Nat.le_refl W1.heap.size))
        have HB3 := Lib.hid (Below.to HB1.out HB31.out (Nat.le_of_lt HS1.out))
        have k0 := (HB31.out.cell HS1.out).trans d0
        have k4 := (HB31.out.cell HS1.out).trans d4
        have HL3 := Lib.hid (HL1.out.below HB31.out)
        clear hb3
        go_wp2_with fail
        refine (size_any l _ k _ _ HL3.out HX.out ha0.out hszb.out).mono ?_
        rintro e w4 ⟨rfl, n4, rfl⟩
        go_wp2_with fail
        go_ret
        exact ⟨rfl, below_drewN HB3.out _⟩
      have HSS := Lib.hid hs
      have hw : wrongF l k ⟨par, crt, at_, own, opn⟩ = (if opn = true then 0 else 11) := (by 
        cases opn with
        | true => exact wrongF_0 H1.out H2.out HD.out HSS.out (by rw [HP.out]; simp)
        | false => exact wrongF_11 H1.out H2.out HD.out HSS.out (.inr ⟨rfl, hpn⟩))
      rw [hw]
      clear hw
      cases opn
      all_goals
        go_enter Try.func41, Try.ntmps41
        go_wp2_with fail
        rw [← HW1.out]
        refine (court_any _ _).mono ?_
        rintro e w' ⟨rfl, rfl⟩
        go_wp2_with fail
        refine (forkDepth l _ k _ (HL1.out.below (Below.refl W1.heap.size W1)) HDP.out HCL.out).mono ?_
        rintro e w3 ⟨rfl, hb3⟩
        rw [depthZ_nat]
        have HB31 := Lib.hid (Below.to (Below.refl W1.heap.size W1) hb3 (Nat.le_refl W1.heap.size))
        have HB3 := Lib.hid (Below.to HB1.out HB31.out (Nat.le_of_lt HS1.out))
        have k0 := (HB31.out.cell HS1.out).trans d0
        have k4 := (HB31.out.cell HS1.out).trans d4
        have HL3 := Lib.hid (HL1.out.below HB31.out)
        clear hb3
        go_wp2_with fail
        refine (size_any l _ k _ _ HL3.out HX.out ha0.out hszb.out).mono ?_
        rintro e w4 ⟨rfl, n4, rfl⟩
        go_wp2_with fail
        go_ret
        exact ⟨rfl, below_drewN HB3.out _⟩

    · obtain ⟨p, rfl⟩ := Int.eq_ofNat_of_zero_le (by omega : 0 ≤ par)
      have hpk : p < k := by omega
      have hpl : p < l.length := by omega
      have hpx := List.getElem?_eq_getElem hpl
      have hokp := HOK.out p _ hpk hpx
      have HM : Hid (most l ⟨(p : Int), crt, at_, own, opn⟩ = sz l[p]) := (by show most _ _ = _; unfold most; rw [if_neg hpn]; simp only [Int.toNat_natCast, hpx])
      have HP : Hid (popen l ⟨(p : Int), crt, at_, own, opn⟩ = l[p].opn) := (by show popen _ _ = _; unfold popen; rw [if_neg hpn]; simp only [Int.toNat_natCast, hpx])
      have hszp : sz l[p] ≤ 65536 := hokp.s
      have hatp := Lib.hid hokp.a1
      have hszh : Hid (sz l[p] ≤ 9000000000000000000) := (by show _ ≤ _; omega)
      have HPX := Lib.hid hpx
      obtain ⟨bb2, off2, u2, he2, -, -, -, -, -, e4⟩ := HC.out p hpl
      cases he2
      have f4 : W1.cell? ⟨bb, off + p * 5 + 4, none⟩ = some (.bool l[p].opn) := (HBW.out.cell (World.block_lt_of_cell? _ _ e4)).trans e4
      have HWD : Hid (IsBrs W1.drew (.slice (some ⟨bb, off, none⟩) l.length cap0) l) := HL1.out.below ((Below.refl _ _).drew)
      clear hpx hokp e4 hpn

      by_cases ha1 : at_ < 0
      · have hw : wrongF l k ⟨(p : Int), crt, at_, own, opn⟩ = 5 := wrongF_5b H1.out (.inl ha1)
        rw [hw]
        clear hw
        go_enter Try.func41, Try.ntmps41
        go_wp2_with fail
        rw [← HW1.out]
        refine (court_any _ _).mono ?_
        rintro e w' ⟨rfl, rfl⟩
        go_wp2_with fail
        go_region_held3 (fun w' => w'.cell? ⟨w.heap.size, 0, none⟩ = some (.int .i64 p) ∧ w'.cell? ⟨bb, off + p * 5 + 4, none⟩ = some (.bool l[p].opn)) (first | go_keep)
          (first
            | (go_at_call 49; refine (size_any l _ p l[p] _ HWD.out HPX.out hatp.out hszh.out).mono ?_; rintro e w2 ⟨rfl, n2, rfl⟩))
        go_wp2_with fail
        go_ret
        exact ⟨rfl, below_drewN HB1.out _⟩
      by_cases ha2 : sz l[p] < at_
      · have hw : wrongF l k ⟨(p : Int), crt, at_, own, opn⟩ = 5 := wrongF_5b H1.out (.inr (by rw [HM.out]; exact ha2))
        rw [hw]
        clear hw
        go_enter Try.func41, Try.ntmps41
        go_wp2_with fail
        rw [← HW1.out]
        refine (court_any _ _).mono ?_
        rintro e w' ⟨rfl, rfl⟩
        go_wp2_with fail
        go_region_held3 (fun w' => w'.cell? ⟨w.heap.size, 0, none⟩ = some (.int .i64 p) ∧ w'.cell? ⟨bb, off + p * 5 + 4, none⟩ = some (.bool l[p].opn)) (first | go_keep)
          (first
            | (go_at_call 49; refine (size_any l _ p l[p] _ HWD.out HPX.out hatp.out hszh.out).mono ?_; rintro e w2 ⟨rfl, n2, rfl⟩))
        go_wp2_with fail
        go_ret
        exact ⟨rfl, below_drewN HB1.out _⟩
      have H2 : Hid (¬ (at_ < 0 ∨ most l ⟨(p : Int), crt, at_, own, opn⟩ < at_)) := (by show ¬ _; rw [HM.out]; omega)
      have ha0 : Hid (0 ≤ at_) := (by show _ ≤ _; omega)
      have hszb : Hid (sz ⟨(p : Int), crt, at_, own, opn⟩ ≤ 9000000000000000000) := (by show at_ + (own.length : Int) ≤ _; omega)
      by_cases hd : 8 < depth l k
      · have hw : wrongF l k ⟨(p : Int), crt, at_, own, opn⟩ = 40 := wrongF_40 H1.out H2.out hd
        rw [hw]
        clear hw
        have hd' : (8 : Int) < (depth l k : Int) := by omega
        clear hd
        go_enter Try.func41, Try.ntmps41
        go_wp2_with fail
        rw [← HW1.out]
        refine (court_any _ _).mono ?_
        rintro e w' ⟨rfl, rfl⟩
        go_wp2_with fail
        go_region_held3 (fun w' => w'.cell? ⟨w.heap.size, 0, none⟩ = some (.int .i64 p) ∧ w'.cell? ⟨bb, off + p * 5 + 4, none⟩ = some (.bool l[p].opn)) (first | go_keep)
          (first
            | (go_at_call 49; refine (size_any l _ p l[p] _ HWD.out HPX.out hatp.out hszh.out).mono ?_; rintro e w2 ⟨rfl, n2, rfl⟩))
        go_wp2_with fail
        refine (forkDepth l _ k _ (HL1.out.below (below_drewN (Below.refl W1.heap.size W1) _)) HDP.out HCL.out).mono ?_
        rintro e w3 ⟨rfl, hb3⟩
        rw [depthZ_nat]
        have HB31 := Lib.hid (Below.to (below_drewN (Below.refl W1.heap.size W1) _) hb3 (Nat.le_refl W1.heap.size))
        have HB3 := Lib.hid (Below.to HB1.out HB31.out (Nat.le_of_lt HS1.out))
        have k0 := (HB31.out.cell HS1.out).trans d0
        have k4 := (HB31.out.cell HS1.out).trans d4
        have HL3 := Lib.hid (HL1.out.below HB31.out)
        clear hb3
        go_wp2_with fail
        go_ret
        exact ⟨rfl, HB3.out⟩
      have hd' : ¬ (8 : Int) < (depth l k : Int) := by omega
      have HD := Lib.hid hd
      clear hd
      by_cases hs : 65536 < sz ⟨(p : Int), crt, at_, own, opn⟩
      · have hw : wrongF l k ⟨(p : Int), crt, at_, own, opn⟩ = 2 := wrongF_2 H1.out H2.out HD.out hs
        rw [hw]
        clear hw
        go_enter Try.func41, Try.ntmps41
        go_wp2_with fail
        rw [← HW1.out]
        refine (court_any _ _).mono ?_
        rintro e w' ⟨rfl, rfl⟩
        go_wp2_with fail
        go_region_held3 (fun w' => w'.cell? ⟨w.heap.size, 0, none⟩ = some (.int .i64 p) ∧ w'.cell? ⟨bb, off + p * 5 + 4, none⟩ = some (.bool l[p].opn)) (first | go_keep)
          (first
            | (go_at_call 49; refine (size_any l _ p l[p] _ HWD.out HPX.out hatp.out hszh.out).mono ?_; rintro e w2 ⟨rfl, n2, rfl⟩))
        go_wp2_with fail
        refine (forkDepth l _ k _ (HL1.out.below (below_drewN (Below.refl W1.heap.size W1) _)) HDP.out HCL.out).mono ?_
        rintro e w3 ⟨rfl, hb3⟩
        rw [depthZ_nat]
        have HB31 := Lib.hid (Below.to (below_drewN (Below.refl W1.heap.size W1) _) hb3 (Nat.le_refl W1.heap.size))
        have HB3 := Lib.hid (Below.to HB1.out HB31.out (Nat.le_of_lt HS1.out))
        have k0 := (HB31.out.cell HS1.out).trans d0
        have k4 := (HB31.out.cell HS1.out).trans d4
        have HL3 := Lib.hid (HL1.out.below HB31.out)
        clear hb3
        go_wp2_with fail
        refine (size_any l _ k _ _ HL3.out HX.out ha0.out hszb.out).mono ?_
        rintro e w4 ⟨rfl, n4, rfl⟩
        go_wp2_with fail
        go_ret
        exact ⟨rfl, below_drewN HB3.out _⟩
      have HSS := Lib.hid hs
      have hw : wrongF l k ⟨(p : Int), crt, at_, own, opn⟩ = (if opn = true then (if l[p].opn = true then 0 else 11) else 0) := (by 
        cases ho : opn with
        | true =>
          subst ho
          cases hpo : l[p].opn with
          | true => exact wrongF_0 H1.out H2.out HD.out HSS.out (by rw [HP.out, hpo]; simp)
          | false => exact wrongF_11 H1.out H2.out HD.out HSS.out (.inl ⟨rfl, by rw [HP.out, hpo]⟩)
        | false =>
          subst ho
          exact wrongF_0 H1.out H2.out HD.out HSS.out (by simp))
      rw [hw]
      clear hw
      cases opn
      all_goals generalize hpo : l[p].opn = po at *
      all_goals cases po
      all_goals
        go_enter Try.func41, Try.ntmps41
        go_wp2_with fail
        rw [← HW1.out]
        refine (court_any _ _).mono ?_
        rintro e w' ⟨rfl, rfl⟩
        go_wp2_with fail
        go_region_held3 (fun w' => w'.cell? ⟨w.heap.size, 0, none⟩ = some (.int .i64 p) ∧ w'.cell? ⟨bb, off + p * 5 + 4, none⟩ = some (.bool l[p].opn)) (first | go_keep)
          (first
            | (go_at_call 49; refine (size_any l _ p l[p] _ HWD.out HPX.out hatp.out hszh.out).mono ?_; rintro e w2 ⟨rfl, n2, rfl⟩))
        go_wp2_with fail
        refine (forkDepth l _ k _ (HL1.out.below (below_drewN (Below.refl W1.heap.size W1) _)) HDP.out HCL.out).mono ?_
        rintro e w3 ⟨rfl, hb3⟩
        rw [depthZ_nat]
        have HB31 := Lib.hid (Below.to (below_drewN (Below.refl W1.heap.size W1) _) hb3 (Nat.le_refl W1.heap.size))
        have HB3 := Lib.hid (Below.to HB1.out HB31.out (Nat.le_of_lt HS1.out))
        have k0 := (HB31.out.cell HS1.out).trans d0
        have k4 := (HB31.out.cell HS1.out).trans d4
        have HL3 := Lib.hid (HL1.out.below HB31.out)
        clear hb3
        go_wp2_with fail
        refine (size_any l _ k _ _ HL3.out HX.out ha0.out hszb.out).mono ?_
        rintro e w4 ⟨rfl, n4, rfl⟩
        go_wp2_with fail
        go_ret
        exact ⟨rfl, below_drewN HB3.out _⟩
    -- THERE

end Go.Proofs.Ytgfnelpfoegdaaa
