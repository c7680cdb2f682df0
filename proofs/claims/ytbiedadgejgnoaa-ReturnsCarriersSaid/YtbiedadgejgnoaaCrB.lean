/-
  Check of package carrier: papers whose attempt is their index, and ways of such papers, are accepted.
-/
import Derived.Test.YtbiedadgejgnoaaCrA
namespace Go.Proofs.Ytbiedadgejgnoaa
open Go.RowKit

theorem withinC (n most : Int) (h0 : 0 ≤ n) (h1 : n < most) (w : World) : Calls Try.prog 40 #[.int .i64 n, .int .i64 most] w fun e w' => e = .returned (.bool true) ∧ w = w' := by
  go_enter Try.func40, Try.ntmps40
  go_wp2_with fail
  go_ret
  simp

theorem chkPaper (x : Ret) (a : Int) (P : Nat) (w : World) (h : w.cell? ⟨P, 0, none⟩ = some (.int .i64 a)) :
    Calls Try.prog 42 #[.agg (litRt x), .pointer (some ⟨P, 0, none⟩)] w fun e w' => e = .returned (.bool (x.car == a)) ∧ Below w.heap.size w w' := by
  obtain ⟨s0, s1, s2, s3⟩ := x
  rw [show litRt ⟨s0, s1, s2, s3⟩ = #[.int .i64 s0, .int .i64 s1, .int .i64 s2, .int .i64 s3] from rfl]
  simp only
  have hb0 : Below w.heap.size w (w.alloc (.cells #[.int .i64 s0, .int .i64 s1, .int .i64 s2, .int .i64 s3] 53)) := (Below.refl _ _).alloc (Nat.le_refl _) _
  have h0 := (hb0.cell (p := ⟨P, 0, none⟩) (World.block_lt_of_cell? _ _ h)).trans h
  obtain ⟨⟨k0, k1, k2, k3⟩, -⟩ := four_c (heap_alloc_new w (.cells #[.int .i64 s0, .int .i64 s1, .int .i64 s2, .int .i64 s3] 53))
  have HB0 := Lib.hid hb0
  clear h hb0
  go_enter Try.func42, Try.ntmps42
  go_wp2_with fail
  go_ret
  exact ⟨rfl, HB0.out⟩
set_option maxRecDepth 100000 in
theorem canChk1 : CanCall 42 := fun _ _ => rfl
theorem chkPaper2 (x : Ret) (a : Int) (P : Nat) (w : World) (h : w.cell? ⟨P, 0, none⟩ = some (.int .i64 a)) :
    Calls Try.prog 43 #[.agg (litRt x), .pointer (some ⟨P, 0, none⟩)] w fun e w' => e = .returned (.bool (x.car == a)) ∧ Below w.heap.size w w' := by
  obtain ⟨s0, s1, s2, s3⟩ := x
  rw [show litRt ⟨s0, s1, s2, s3⟩ = #[.int .i64 s0, .int .i64 s1, .int .i64 s2, .int .i64 s3] from rfl]
  simp only
  have hb0 : Below w.heap.size w (w.alloc (.cells #[.int .i64 s0, .int .i64 s1, .int .i64 s2, .int .i64 s3] 53)) := (Below.refl _ _).alloc (Nat.le_refl _) _
  have h0 := (hb0.cell (p := ⟨P, 0, none⟩) (World.block_lt_of_cell? _ _ h)).trans h
  obtain ⟨⟨k0, k1, k2, k3⟩, -⟩ := four_c (heap_alloc_new w (.cells #[.int .i64 s0, .int .i64 s1, .int .i64 s2, .int .i64 s3] 53))
  have HB0 := Lib.hid hb0
  clear h hb0
  go_enter Try.func43, Try.ntmps43
  go_wp2_with fail
  go_ret
  exact ⟨rfl, HB0.out⟩
set_option maxRecDepth 100000 in
theorem canChk2 : CanCall 43 := fun _ _ => rfl
theorem chkWay (x : Ret) (a : Int) (P : Nat) (w : World) (h : w.cell? ⟨P, 0, none⟩ = some (.int .i64 a)) :
    Calls Try.prog 45 #[.agg (litRt x), .pointer (some ⟨P, 0, none⟩)] w fun e w' => e = .returned (.bool (x.car == a)) ∧ Below w.heap.size w w' := by
  obtain ⟨s0, s1, s2, s3⟩ := x
  rw [show litRt ⟨s0, s1, s2, s3⟩ = #[.int .i64 s0, .int .i64 s1, .int .i64 s2, .int .i64 s3] from rfl]
  simp only
  have hb0 : Below w.heap.size w (w.alloc (.cells #[.int .i64 s0, .int .i64 s1, .int .i64 s2, .int .i64 s3] 55)) := (Below.refl _ _).alloc (Nat.le_refl _) _
  have h0 := (hb0.cell (p := ⟨P, 0, none⟩) (World.block_lt_of_cell? _ _ h)).trans h
  obtain ⟨⟨k0, k1, k2, k3⟩, -⟩ := four_c (heap_alloc_new w (.cells #[.int .i64 s0, .int .i64 s1, .int .i64 s2, .int .i64 s3] 55))
  have HB0 := Lib.hid hb0
  clear h hb0
  go_enter Try.func45, Try.ntmps45
  go_wp2_with fail
  go_ret
  exact ⟨rfl, HB0.out⟩
set_option maxRecDepth 100000 in
theorem canChk3 : CanCall 45 := fun _ _ => rfl

/-- Ways of such papers: their attempts rise. -/
structure WaysOk (papers ways : List Ret) : Prop where
  rise : ∀ (i j : Nat) (hi : i < ways.length) (hj : j < ways.length), i < j → ways[i].car < ways[j].car
  att : ∀ x ∈ ways, 0 ≤ x.car ∧ x.car < papers.length
  num : ∀ x ∈ ways, (0 ≤ x.kind ∧ x.kind < 6) ∧ (0 ≤ x.fr ∧ x.fr < 1001) ∧ (0 ≤ x.un ∧ x.un < 64)
structure PapersOk (papers : List Ret) : Prop where
  idx : AttIdx papers
  len : papers.length ≤ 1000
  num : ∀ x ∈ papers, (0 ≤ x.kind ∧ x.kind < 64) ∧ (0 ≤ x.fr ∧ x.fr < 16) ∧ (0 ≤ x.un ∧ x.un < 3652059)

set_option maxHeartbeats 4000000 in
set_option maxRecDepth 100000 in
theorem check_cr (papers ways : List Ret) (v y : Value) (w : World) (hx : IsRts w v papers) (hy : IsRts w y ways) (hp : PapersOk papers) (hw : WaysOk papers ways) :
    Calls Try.prog 26 #[v, y] w fun e w' => e = .returned (.int .i64 0) ∧ Below w.heap.size w w' := by
  have HX := Lib.hid hx
  have HY := Lib.hid hy
  have HP := Lib.hid hp
  have HW := Lib.hid hw
  have hpl := hp.len
  obtain ⟨a1, c1, rfl, -, -⟩ := hx.open
  obtain ⟨a2, c2, rfl, hym, -⟩ := hy.open
  unfold maxLen at hym
  have HWI : Hid (∀ (n most : Int) (W : World), 0 ≤ n → n < most → Calls Try.prog 40 #[.int .i64 n, .int .i64 most] W fun e w' => e = .returned (.bool true) ∧ W = w') := fun n most W h0 h1 => withinC n most h0 h1 W
  clear hx hy hp hw
  go_enter Try.func26, Try.ntmps26
  go_wp2_with fail
  go_loopw [11] (fun i wr => ∃ k : Nat, i = .int .i64 k ∧ k ≤ papers.length ∧ Hid (Below w.heap.size w wr)) (fun i _ => papers.length - (intOf i).toNat)
  case atStart => exact ⟨0, rfl, Nat.zero_le _, Lib.hid (Below.refl _ _)⟩
  case round =>
    obtain ⟨k, rfl, hk, HB⟩ := hrel
    have ek : IntKind.i64.wrap ((k : Int) + 1) = ((k + 1 : Nat) : Int) := by rw [IntKind.wrap_i64]; omega
    by_cases hkl : k < papers.length
    · have hkI : (k : Int) < (papers.length : Int) := by omega
      obtain ⟨b5, o5, q5, e5, hb5, d0, d1, d2, d3⟩ := (HX.out.below HB.out).at hkl
      simp only [Value.slice.injEq, true_and] at e5
      obtain ⟨rfl, -⟩ := e5
      have hnum := HP.out.num papers[k] (List.getElem_mem hkl)
      have hcar := HP.out.idx k hkl
      have hfin := HP.out.idx.find hkl
      generalize papers[k] = p at *
      obtain ⟨p0, p1, p2, p3⟩ := p
      simp only at d0 d1 d2 d3 hnum hcar
      subst hcar
      obtain ⟨⟨n1, n2⟩, ⟨n3, n4⟩, ⟨n5, n6⟩⟩ := hnum
      have hal := heap_alloc_new wr (.cells #[.int .i64 (k : Int), .int .i64 p1, .int .i64 p2, .int .i64 p3] 53)
      obtain ⟨⟨e0, e1, e2, e3⟩, -⟩ := four_c hal
      have hb1 : Below wr.heap.size wr (wr.alloc (.cells #[.int .i64 (k : Int), .int .i64 p1, .int .i64 p2, .int .i64 p3] 53)) := (Below.refl _ _).alloc (Nat.le_refl _) _
      have HB1 := Lib.hid (Below.to HB.out hb1 HB.out.size)
      have H1 := findPaper papers (fun x : Ret => x.car == (k : Int)) 42 #[.pointer (some ⟨wr.heap.size, 0, none⟩)] _ _ (HX.out.below HB1.out) canChk1
        (fun i hi W hW => chkPaper papers[i] k wr.heap.size W ((hW.cell (p := ⟨wr.heap.size, 0, none⟩) (by simp)).trans e0))
      rw [hfin] at H1
      have H1 := Lib.hid H1
      clear hal hb1 hfin
      go_wp2_with fail
      refine (HWI.out _ _ _ (by omega) (by omega)).mono ?_
      rintro e w' ⟨rfl, rfl⟩
      go_wp2_with fail
      refine (HWI.out _ _ _ (by omega) (by omega)).mono ?_
      rintro e w' ⟨rfl, rfl⟩
      go_wp2_with fail
      refine (HWI.out _ _ _ (by omega) (by omega)).mono ?_
      rintro e w' ⟨rfl, rfl⟩
      go_wp2_with fail
      refine (HWI.out _ _ _ (by omega) (by omega)).mono ?_
      rintro e w' ⟨rfl, rfl⟩
      go_wp2_with fail
      refine H1.out.mono ?_
      rintro e w3 ⟨rfl, hb3⟩
      have HB3 := Lib.hid (Below.to HB1.out hb3 HB1.out.size)
      clear hb3 H1 e0 e1 e2 e3 d0 d1 d2 d3
      go_wp2_with fail
      go_roundw
      case rel => exact ⟨k + 1, by go_num, by omega, HB3⟩
      case measure => simp [intOf]; omega
    · have hkI : ¬ (k : Int) < (papers.length : Int) := by omega
      obtain ⟨wo, rfl⟩ : ∃ wo : World, wo = wr := ⟨_, rfl⟩
      clear ek
      go_wp2_with fail
      go_loopw [46] (fun i wr => ∃ j : Nat, i = .int .i64 j ∧ j ≤ ways.length ∧ Hid (Below w.heap.size w wr)) (fun i _ => ways.length - (intOf i).toNat)
      case atStart => exact ⟨0, rfl, Nat.zero_le _, HB⟩
      case round =>
        obtain ⟨j, rfl, hj, HBJ⟩ := hrel
        by_cases hjl : j < ways.length
        · have ej : IntKind.i64.wrap ((j : Int) + 1) = ((j + 1 : Nat) : Int) := by rw [IntKind.wrap_i64]; omega
          have hjI : (j : Int) < (ways.length : Int) := by omega
          obtain ⟨b5, o5, q5, e5, hb5, d0, d1, d2, d3⟩ := (HY.out.below HBJ.out).at hjl
          simp only [Value.slice.injEq, true_and] at e5
          obtain ⟨rfl, -⟩ := e5
          have hnum := HW.out.num ways[j] (List.getElem_mem hjl)
          have hatt := HW.out.att ways[j] (List.getElem_mem hjl)
          have hfin : idxF (fun x : Ret => x.car == ways[j].car) ways = (j : Int) := idxF_here hjl (fun i hi hij => by
            have hne : ¬ ways[i].car = ways[j].car := by have := HW.out.rise i j hi hjl hij; omega
            simpa using hne) (by simp)
          obtain ⟨A, hA⟩ : ∃ A : Nat, ways[j].car = (A : Int) := ⟨ways[j].car.toNat, by omega⟩
          have hfin2 := HP.out.idx.find (i := A) (by omega)
          rw [hA] at hfin
          generalize ways[j] = x at *
          obtain ⟨x0, x1, x2, x3⟩ := x
          simp only at d0 d1 d2 d3 hnum hA hatt
          subst hA
          obtain ⟨⟨n1, n2⟩, ⟨n3, n4⟩, ⟨n5, n6⟩⟩ := hnum
          have hal := heap_alloc_new wr (.cells #[.int .i64 (A : Int), .int .i64 x1, .int .i64 x2, .int .i64 x3] 55)
          have hb1 : Below wr.heap.size wr (wr.alloc (.cells #[.int .i64 (A : Int), .int .i64 x1, .int .i64 x2, .int .i64 x3] 55)) := (Below.refl _ _).alloc (Nat.le_refl _) _
          have HB1 := Lib.hid (Below.to HBJ.out hb1 HBJ.out.size)
          obtain ⟨⟨e0, e1, e2, e3⟩, -⟩ := four_c hal
          have H1 := findPaper papers (fun x : Ret => x.car == (A : Int)) 43 #[.pointer (some ⟨wr.heap.size, 0, none⟩)] _ _ (HX.out.below HB1.out) canChk2
            (fun i hi W hW => chkPaper2 papers[i] A wr.heap.size W ((hW.cell (p := ⟨wr.heap.size, 0, none⟩) (by simp)).trans e0))
          rw [hfin2] at H1
          have H1 := Lib.hid H1
          have H2 : Hid (∀ W, Below (wr.alloc (.cells #[.int .i64 (A : Int), .int .i64 x1, .int .i64 x2, .int .i64 x3] 55)).heap.size (wr.alloc (.cells #[.int .i64 (A : Int), .int .i64 x1, .int .i64 x2, .int .i64 x3] 55)) W → Calls Try.prog 44 #[.slice (some ⟨b5, o5, none⟩) ways.length c2, .func (.func 45) #[] #[.pointer (some ⟨wr.heap.size, 0, none⟩)]] W fun e w' => e = .returned (.int .i64 (j : Int)) ∧ Below W.heap.size W w') := fun W hW => by
            have h := findWay ways (fun x : Ret => x.car == (A : Int)) 45 #[.pointer (some ⟨wr.heap.size, 0, none⟩)] _ W ((HY.out.below HB1.out).below hW) canChk3
              (fun i hi W' hW' => chkWay ways[i] A wr.heap.size W' (((Below.to hW hW' hW.size).cell (p := ⟨wr.heap.size, 0, none⟩) (by simp)).trans e0))
            rw [hfin] at h
            exact h
          have HF : Hid (∀ W, Below (wr.alloc (.cells #[.int .i64 (A : Int), .int .i64 x1, .int .i64 x2, .int .i64 x3] 55)).heap.size (wr.alloc (.cells #[.int .i64 (A : Int), .int .i64 x1, .int .i64 x2, .int .i64 x3] 55)) W → W.heap[wr.heap.size]? = some (.cells #[.int .i64 (A : Int), .int .i64 x1, .int .i64 x2, .int .i64 x3] 55)) := fun W hW => (hW.block _ (by simp)).trans hal
          have hAN : ¬ (A : Int) < 0 := by omega
          clear hal hb1 hfin hfin2 e1 e2 e3
          go_wp2_with fail
          refine H1.out.mono ?_
          rintro e w3 ⟨rfl, hb3⟩
          have HB3 := Lib.hid (Below.to HB1.out hb3 HB1.out.size)
          have H3 := Lib.hid (H2.out w3 hb3)
          obtain ⟨⟨g0, g1, g2, g3⟩, -⟩ := four_c (HF.out w3 hb3)
          clear hb3 H1 H2 HF e0 d0 d1 d2 d3
          go_wp2_with fail
          refine (HWI.out _ _ _ (by omega) (by omega)).mono ?_
          rintro e w' ⟨rfl, rfl⟩
          go_wp2_with fail
          refine (HWI.out _ _ _ (by omega) (by omega)).mono ?_
          rintro e w' ⟨rfl, rfl⟩
          go_wp2_with fail
          refine (HWI.out _ _ _ (by omega) (by omega)).mono ?_
          rintro e w' ⟨rfl, rfl⟩
          go_wp2_with fail
          refine H3.out.mono ?_
          rintro e w4 ⟨rfl, hb4⟩
          have HB4 := Lib.hid (Below.to HB3.out hb4 HB3.out.size)
          clear hb4 H3 g0 g1 g2 g3
          go_wp2_with fail
          go_roundw
          case rel => exact ⟨j + 1, by go_num, by omega, HB4⟩
          case measure => simp [intOf]; omega
        · have hjI : ¬ (j : Int) < (ways.length : Int) := by omega
          go_wp2_with fail
          go_ret
          exact ⟨rfl, HBJ.out⟩

end Go.Proofs.Ytbiedadgejgnoaa
