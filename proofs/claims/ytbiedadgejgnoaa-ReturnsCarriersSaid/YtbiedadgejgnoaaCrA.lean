/-
  Served and Check of package carrier, where each paper's attempt is its index.
-/
import Derived.Test.YtbiedadgejgnoaaCr8
namespace Go.Proofs.Ytbiedadgejgnoaa
open Go.RowKit

/-! ### Served -/
theorem srvPaper (x : Ret) (a : Int) (P : Nat) (w : World) (h : w.cell? ⟨P, 0, none⟩ = some (.int .i64 a)) :
    Calls Try.prog 51 #[.agg (litRt x), .pointer (some ⟨P, 0, none⟩)] w fun e w' => e = .returned (.bool (x.car == a)) ∧ Below w.heap.size w w' := by
  obtain ⟨s0, s1, s2, s3⟩ := x
  rw [show litRt ⟨s0, s1, s2, s3⟩ = #[.int .i64 s0, .int .i64 s1, .int .i64 s2, .int .i64 s3] from rfl]
  simp only
  have hb0 : Below w.heap.size w (w.alloc (.cells #[.int .i64 s0, .int .i64 s1, .int .i64 s2, .int .i64 s3] 53)) := (Below.refl _ _).alloc (Nat.le_refl _) _
  have h0 := (hb0.cell (p := ⟨P, 0, none⟩) (World.block_lt_of_cell? _ _ h)).trans h
  obtain ⟨⟨k0, k1, k2, k3⟩, -⟩ := four_c (heap_alloc_new w (.cells #[.int .i64 s0, .int .i64 s1, .int .i64 s2, .int .i64 s3] 53))
  have HB0 := Lib.hid hb0
  clear h hb0
  go_enter Try.func51, Try.ntmps51
  go_wp2_with fail
  go_ret
  exact ⟨rfl, HB0.out⟩
set_option maxRecDepth 100000 in
theorem canSrvPaper : CanCall 51 := fun _ _ => rfl

set_option maxHeartbeats 1000000 in
theorem srvDel (x : Dl) (a : Int) (papers : List Ret) (i : Nat) (hi : i < papers.length) (v : Value) (A P I : Nat) (w : World) (hA : w.cell? ⟨A, 0, none⟩ = some (.int .i64 a)) (hP : w.cell? ⟨P, 0, none⟩ = some v) (hI : w.cell? ⟨I, 0, none⟩ = some (.int .i64 i)) (hx : IsRts w v papers) :
    Calls Try.prog 53 #[.agg (litDl x), .pointer (some ⟨A, 0, none⟩), .pointer (some ⟨P, 0, none⟩), .pointer (some ⟨I, 0, none⟩)] w fun e w' => e = .returned (.bool (x.att == a && x.par == papers[i].kind)) ∧ Below w.heap.size w w' := by
  obtain ⟨s0, s1, s2⟩ := x
  rw [show litDl ⟨s0, s1, s2⟩ = #[.int .i64 s0, .int .i64 s1, .int .i64 s2] from rfl]
  simp only
  have hb0 : Below w.heap.size w (w.alloc (.cells #[.int .i64 s0, .int .i64 s1, .int .i64 s2] 82)) := (Below.refl _ _).alloc (Nat.le_refl _) _
  obtain ⟨b, o, q, rfl, -, c0, c1, c2, c3⟩ := hx.at hi
  have hlt := World.block_lt_of_cell? _ _ c1
  have H1 := hb0.trans ((Below.refl w.heap.size _).drew)
  have hA0 : Hid ((w.alloc (.cells #[.int .i64 s0, .int .i64 s1, .int .i64 s2] 82)).cell? ⟨A, 0, none⟩ = some (.int .i64 a)) := (hb0.cell (p := ⟨A, 0, none⟩) (World.block_lt_of_cell? _ _ hA)).trans hA
  have hP0 : Hid ((w.alloc (.cells #[.int .i64 s0, .int .i64 s1, .int .i64 s2] 82)).cell? ⟨P, 0, none⟩ = some (.slice (some ⟨b, o, none⟩) papers.length q)) := (hb0.cell (p := ⟨P, 0, none⟩) (World.block_lt_of_cell? _ _ hP)).trans hP
  have hI0 : Hid ((w.alloc (.cells #[.int .i64 s0, .int .i64 s1, .int .i64 s2] 82)).cell? ⟨I, 0, none⟩ = some (.int .i64 i)) := (hb0.cell (p := ⟨I, 0, none⟩) (World.block_lt_of_cell? _ _ hI)).trans hI
  have hC0 : Hid ((w.alloc (.cells #[.int .i64 s0, .int .i64 s1, .int .i64 s2] 82)).cell? ⟨b, o + i * 4 + 1, none⟩ = some (.int .i64 papers[i].kind)) := (hb0.cell (p := ⟨b, o + i * 4 + 1, none⟩) hlt).trans c1
  obtain ⟨⟨k0, k1, k2⟩, -⟩ := three_c (heap_alloc_new w (.cells #[.int .i64 s0, .int .i64 s1, .int .i64 s2] 82))
  have hiI : (i : Int) < (papers.length : Int) := by omega
  have hiN : ¬ (i : Int) < 0 := by omega
  have HB0 := Lib.hid H1
  have hA1 := hA0.out
  have hP1 := hP0.out
  have hI1 := hI0.out
  have hC1 := hC0.out
  clear hA hP hI hx hb0 H1 c0 c1 c2 c3 hlt hA0 hP0 hI0 hC0
  generalize papers[i].kind = kp at *
  by_cases h1 : s0 = a
  · subst h1
    go_enter Try.func53, Try.ntmps53
    go_wp2_with fail
    go_region
    go_wp2_with fail
    go_ret
    exact ⟨by simp, HB0.out⟩
  · have h2 : (s0 == a) = false := by simpa using h1
    clear h1
    go_enter Try.func53, Try.ntmps53
    go_wp2_with fail
    go_region
    go_wp2_with fail
    go_ret
    exact ⟨by simp [h2], HB0.out⟩
set_option maxRecDepth 100000 in
theorem canSrvDel : CanCall 53 := fun _ _ => rfl

/-- The day of the delivery to the party, if there is one. -/
def srvF (l : List Dl) (a par : Int) : Int × Bool := match l.find? (fun d => d.att == a && d.par == par) with
  | none => (0, false)
  | some d => (d.day, true)
theorem srvF_of {l : List Dl} {a par : Int} : (idxF (fun d : Dl => d.att == a && d.par == par) l = -1 ∧ srvF l a par = (0, false)) ∨ ∃ j, ∃ hj : j < l.length, idxF (fun d : Dl => d.att == a && d.par == par) l = (j : Int) ∧ srvF l a par = (l[j].day, true) := by
  cases h : l.findIdx? (fun d : Dl => d.att == a && d.par == par) with
  | none =>
    left
    have h2 : l.find? (fun d : Dl => d.att == a && d.par == par) = none := by
      rw [List.findIdx?_eq_none_iff] at h
      rw [List.find?_eq_none]
      intro x hx
      rw [h x hx]
      decide
    unfold idxF srvF
    rw [h, h2]
    exact ⟨rfl, rfl⟩
  | some j =>
    right
    obtain ⟨hj, h1, h2⟩ := List.findIdx?_eq_some_iff_getElem.1 h
    have h3 : l.find? (fun d : Dl => d.att == a && d.par == par) = some l[j] := by
      rw [List.find?_eq_some_iff_getElem]
      exact ⟨h1, j, hj, rfl, fun i hi => by have h5 := h2 i hi; simp only [Bool.not_eq_true] at h5; rw [h5]; rfl⟩
    unfold idxF srvF
    rw [h, h3]
    exact ⟨j, hj, rfl, rfl⟩

def AttIdx (papers : List Ret) : Prop := ∀ (i : Nat) (h : i < papers.length), papers[i].car = (i : Int)
theorem AttIdx.find {papers : List Ret} (h : AttIdx papers) {i : Nat} (hi : i < papers.length) : idxF (fun x : Ret => x.car == (i : Int)) papers = (i : Int) :=
  idxF_here hi (fun j hj hji => by
    have e := h j hj
    have hne : ¬ papers[j].car = (i : Int) := by omega
    simpa using hne) (by simp [h i hi])

set_option maxHeartbeats 1000000 in
set_option maxRecDepth 100000 in
theorem served_cr (l : List Dl) (papers : List Ret) (i : Nat) (v y : Value) (w : World) (hx : IsDls w v l) (hy : IsRts w y papers) (ha : AttIdx papers) (hi : i < papers.length) :
    Calls Try.prog 28 #[v, y, .int .i64 i] w fun e w' => e = .returned (.tuple #[.int .i64 (srvF l i papers[i].kind).1, .bool (srvF l i papers[i].kind).2]) ∧ Below w.heap.size w w' := by
  obtain ⟨P, hP⟩ : ∃ P, P = w.heap.size := ⟨_, rfl⟩
  obtain ⟨a1, c1, rfl, -, -⟩ := hx.open
  obtain ⟨a2, c2, rfl, hym, -⟩ := hy.open
  obtain ⟨W0, hW0⟩ : ∃ W0, W0 = (w.alloc (.cells #[.slice a2 papers.length c2] 50)).alloc (.cells #[.int .i64 (i : Int)] 3) := ⟨_, rfl⟩
  have hb0 : Below w.heap.size w W0 := by rw [hW0]; exact ((Below.refl _ _).alloc (Nat.le_refl _) _).alloc (by simp) _
  have cP : W0.cell? ⟨P, 0, none⟩ = some (.slice a2 papers.length c2) := by
    rw [hW0, hP]
    exact (((Below.refl (w.alloc (.cells #[.slice a2 papers.length c2] 50)).heap.size _).alloc (Nat.le_refl _) _).cell (p := ⟨w.heap.size, 0, none⟩) (by simp)).trans ((cells_alloc w #[.slice a2 papers.length c2] 50 0).trans rfl)
  have cA : W0.cell? ⟨P + 1, 0, none⟩ = some (.int .i64 (i : Int)) := by
    have h := cells_alloc (w.alloc (.cells #[.slice a2 papers.length c2] 50)) #[.int .i64 (i : Int)] 3 0
    rw [World.size_alloc] at h
    rw [hW0, hP]
    exact h.trans rfl
  have hz : P + 1 < W0.heap.size := by rw [hW0, hP]; simp
  have H1 := findPaper papers (fun x : Ret => x.car == (i : Int)) 51 #[.pointer (some ⟨P + 1, 0, none⟩)] _ W0 (hy.below hb0) canSrvPaper
    (fun k hk W hW => srvPaper papers[k] i (P + 1) W ((hW.cell (p := ⟨P + 1, 0, none⟩) hz).trans cA))
  rw [ha.find hi] at H1
  have H1 := Lib.hid H1
  have H2 : Hid (∀ w2, Below W0.heap.size W0 w2 → Calls Try.prog 52 #[.slice a1 l.length c1, .func (.func 53) #[] #[.pointer (some ⟨P + 1, 0, none⟩), .pointer (some ⟨P, 0, none⟩), .pointer (some ⟨w2.heap.size, 0, none⟩)]] (w2.alloc (.cells #[.int .i64 (i : Int)] 3)) fun e w' => e = .returned (.int .i64 (idxF (fun d : Dl => d.att == (i : Int) && d.par == papers[i].kind) l)) ∧ Below (w2.alloc (.cells #[.int .i64 (i : Int)] 3)).heap.size (w2.alloc (.cells #[.int .i64 (i : Int)] 3)) w') := fun w2 h2 => by
    have h3 : Below W0.heap.size W0 (w2.alloc (.cells #[.int .i64 (i : Int)] 3)) := h2.alloc h2.size _
    refine findDelivery l (fun d : Dl => d.att == (i : Int) && d.par == papers[i].kind) 53 _ _ _ ((hx.below hb0).below h3) canSrvDel (fun k hk W hW => ?_)
    have h4 := Below.to h3 hW h3.size
    refine srvDel l[k] i papers i hi _ (P + 1) P w2.heap.size W ((h4.cell (p := ⟨P + 1, 0, none⟩) hz).trans cA) ((h4.cell (p := ⟨P, 0, none⟩) (by show P < _; omega)).trans cP) ((hW.cell (p := ⟨w2.heap.size, 0, none⟩) (by simp)).trans ((cells_alloc w2 #[.int .i64 (i : Int)] 3 0).trans rfl)) ((hy.below hb0).below h4)
  have HB0 := Lib.hid hb0
  have HCP : Hid (∀ X, Below W0.heap.size W0 X → X.cell? ⟨P, 0, none⟩ = some (.slice a2 papers.length c2)) := fun X hX => (hX.cell (p := ⟨P, 0, none⟩) (by show P < _; omega)).trans cP
  have HX := Lib.hid hx
  have HW0 := Lib.hid hW0
  have HP := Lib.hid hP
  rw [hW0, hP] at cP
  obtain ⟨RS, hRS⟩ : ∃ RS, idxF (fun d : Dl => d.att == (i : Int) && d.par == papers[i].kind) l = RS := ⟨_, rfl⟩
  have HSF : Hid ((RS = -1 ∧ srvF l i papers[i].kind = (0, false)) ∨ ∃ j, ∃ hj : j < l.length, RS = (j : Int) ∧ srvF l i papers[i].kind = (l[j].day, true)) := by
    show _ ∨ _
    rw [← hRS]
    exact srvF_of
  rw [hRS] at H2
  generalize srvF l (i : Int) papers[i].kind = sr at *
  have hiN : ¬ (i : Int) < 0 := by omega
  clear hx hy ha hi hb0 cA hz hW0 hP hRS hym
  go_enter Try.func28, Try.ntmps28
  go_wp2_with fail
  rw [← HW0.out, ← HP.out]
  refine H1.out.mono ?_
  rintro e w2 ⟨rfl, hb2⟩
  have HB2 := Lib.hid hb2
  have H3 := Lib.hid (H2.out w2 hb2)
  have ci := (cells_alloc w2 #[.int .i64 (i : Int)] 3 0).trans rfl
  clear hb2 H1 H2 cP
  go_wp2_with fail
  refine H3.out.mono ?_
  rintro e w3 ⟨rfl, hb3⟩
  have HB3 := Lib.hid (Below.to HB0.out (Below.to (HB2.out.alloc HB2.out.size (.cells #[.int .i64 (i : Int)] 3)) hb3 (HB2.out.alloc HB2.out.size (.cells #[.int .i64 (i : Int)] 3)).size) HB0.out.size)
  clear hb3 H3 ci
  rcases HSF.out with ⟨rfl, rfl⟩ | ⟨j, hj, rfl, rfl⟩
  · clear HSF
    go_wp2_with fail
    go_ret2
    exact ⟨rfl, HB3.out⟩
  · clear HSF
    obtain ⟨b5, o5, q5, e5, hb5, d0, d1, d2⟩ := (HX.out.below HB3.out).at hj
    simp only [Value.slice.injEq, true_and] at e5
    obtain ⟨rfl, -⟩ := e5
    have hjI : (j : Int) < (l.length : Int) := by omega
    have hjN : ¬ (j : Int) < 0 := by omega
    obtain ⟨⟨s0, s1, s2⟩, hs⟩ : ∃ s, l[j] = s := ⟨_, rfl⟩
    rw [hs] at d0 d1 d2
    have HS : Hid (l[j].day = s2) := by show _ = _; rw [hs]
    simp only at d0 d1 d2
    clear hs
    go_wp2_with fail
    go_ret2
    refine ⟨?_, HB3.out⟩
    rw [show l[j].day = s2 from HS.out]
    rfl

end Go.Proofs.Ytbiedadgejgnoaa
