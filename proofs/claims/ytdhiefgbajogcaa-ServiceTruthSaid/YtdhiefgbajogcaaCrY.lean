/-
  Run: the deliveries and the reports of papers and ways. (Printed by wip/tools/gen_cr8.py.)
  A paper is a row of four numbers: attempt, party, carrier, day on which it was sent; a way: attempt, kind, days, party.
  Served and Check of package carrier, where each paper's attempt is its index.
  Check of package carrier: papers whose attempt is their index, and ways of such papers, are accepted.
-/
import Derived.Test.YtdhiefgbajogcaaCrX
namespace Go.Proofs.Ytdhiefgbajogcaa
open Go.RowKit

theorem infoDl : (Try.prog.info? 97).map (fun i => (i.zero, i.size, i.bytes)) = some (some (.agg #[.int .i64 0, .int .i64 0, .int .i64 0]), 3, 24) := by kernel_rfl
theorem infoRp : (Try.prog.info? 73).map (fun i => (i.zero, i.size, i.bytes)) = some (some (.agg #[.int .i64 0, .int .i64 0, .int .i64 0, .int .i64 0, .int .i64 0, .int .i64 0]), 6, 48) := by kernel_rfl

/-! ### in plain words -/
def wayF (ways : List Ret) (a : Int) : Ret := match ways.find? (fun x => x.car == a) with
  | none => ⟨0, 0, 1, 0⟩
  | some x => x
def repQ (att car day : Int) (q : Nat) : List Rp := (List.range q).map (fun (i : Nat) => ⟨att, day + 1 + (i : Int), ⟨car, 1, day, day⟩⟩)
theorem repQ_S (att car day : Int) (q : Nat) : repQ att car day (q + 1) = repQ att car day q ++ [⟨att, day + 1 + (q : Int), ⟨car, 1, day, day⟩⟩] := by
  unfold repQ
  rw [List.range_succ, List.map_append]
  rfl
def copiesN (k : Int) : Nat := if k = 2 then 0 else if k = 3 then 2 else 1
def lostB (day k : Int) : Bool := decide (3652058 < day) || decide (k = 1)
def runD1 (p x : Ret) : List Dl := if lostB (p.un + x.fr) x.kind = true then [] else if x.kind = 5 then [] else [⟨p.car, if x.kind = 4 then x.un else p.kind, p.un + x.fr⟩]
def runR1 (p x : Ret) : List Rp := if lostB (p.un + x.fr) x.kind = true then [] else repQ p.car p.fr (p.un + x.fr) (copiesN x.kind)
def runD (ways papers : List Ret) : List Dl := papers.flatMap (fun p => runD1 p (wayF ways p.car))
def runR (ways papers : List Ret) : List Rp := papers.flatMap (fun p => runR1 p (wayF ways p.car))
theorem runD_take (ways papers : List Ret) {k : Nat} (hk : k < papers.length) : runD ways (papers.take (k + 1)) = runD ways (papers.take k) ++ runD1 papers[k] (wayF ways papers[k].car) := by
  unfold runD
  rw [List.take_succ_eq_append_getElem hk, List.flatMap_append]
  simp
theorem runR_take (ways papers : List Ret) {k : Nat} (hk : k < papers.length) : runR ways (papers.take (k + 1)) = runR ways (papers.take k) ++ runR1 papers[k] (wayF ways papers[k].car) := by
  unfold runR
  rw [List.take_succ_eq_append_getElem hk, List.flatMap_append]
  simp
theorem wayF_of {ways : List Ret} {a : Int} : (idxF (fun x : Ret => x.car == a) ways = -1 ∧ wayF ways a = ⟨0, 0, 1, 0⟩) ∨ ∃ j, ∃ hj : j < ways.length, idxF (fun x : Ret => x.car == a) ways = (j : Int) ∧ wayF ways a = ways[j] := by
  cases h : ways.findIdx? (fun x : Ret => x.car == a) with
  | none =>
    left
    have h2 : ways.find? (fun x : Ret => x.car == a) = none := by
      rw [List.findIdx?_eq_none_iff] at h
      rw [List.find?_eq_none]
      intro x hx
      rw [h x hx]
      decide
    unfold idxF wayF
    rw [h, h2]
    exact ⟨rfl, rfl⟩
  | some j =>
    right
    obtain ⟨hj, h1, h2⟩ := List.findIdx?_eq_some_iff_getElem.1 h
    have h3 : ways.find? (fun x : Ret => x.car == a) = some ways[j] := by
      rw [List.find?_eq_some_iff_getElem]
      exact ⟨h1, j, hj, rfl, fun i hi => by have := h2 i hi; simpa using this⟩
    unfold idxF wayF
    rw [h, h3]
    exact ⟨j, hj, rfl, rfl⟩

/-! ### memory -/
/-- Four cells of a block are written, one after the other. -/
structure Put4 (w W : World) (B T : Nat) (x y z u : Value) : Prop where
  c0 : ∃ a, w.cell? ⟨B, 0, none⟩ = some a
  f0 : w.frozen? ⟨B, 0, none⟩ = false
  c1 : ∃ a, (w.setCell ⟨B, 0, none⟩ x).cell? ⟨B, 1, none⟩ = some a
  f1 : (w.setCell ⟨B, 0, none⟩ x).frozen? ⟨B, 1, none⟩ = false
  c2 : ∃ a, ((w.setCell ⟨B, 0, none⟩ x).setCell ⟨B, 1, none⟩ y).cell? ⟨B, 2, none⟩ = some a
  f2 : ((w.setCell ⟨B, 0, none⟩ x).setCell ⟨B, 1, none⟩ y).frozen? ⟨B, 2, none⟩ = false
  c3 : ∃ a, (((w.setCell ⟨B, 0, none⟩ x).setCell ⟨B, 1, none⟩ y).setCell ⟨B, 2, none⟩ z).cell? ⟨B, 3, none⟩ = some a
  f3 : (((w.setCell ⟨B, 0, none⟩ x).setCell ⟨B, 1, none⟩ y).setCell ⟨B, 2, none⟩ z).frozen? ⟨B, 3, none⟩ = false
  e : W = (((w.setCell ⟨B, 0, none⟩ x).setCell ⟨B, 1, none⟩ y).setCell ⟨B, 2, none⟩ z).setCell ⟨B, 3, none⟩ u
  h : W.heap[B]? = some (.cells #[x, y, z, u] T)
  g : w.grownBy W (some B)
theorem four_c {W : World} {B T : Nat} {a0 a1 a2 a3 : Value} (h : W.heap[B]? = some (.cells #[a0, a1, a2, a3] T)) :
    (W.cell? ⟨B, 0, none⟩ = some a0 ∧ W.cell? ⟨B, 1, none⟩ = some a1 ∧ W.cell? ⟨B, 2, none⟩ = some a2 ∧ W.cell? ⟨B, 3, none⟩ = some a3) ∧ ∀ i, W.frozen? ⟨B, i, none⟩ = false := by
  refine ⟨⟨?_, ?_, ?_, ?_⟩, fun i => ?_⟩
  · simp [World.cell?, h]
  · simp [World.cell?, h]
  · simp [World.cell?, h]
  · simp [World.cell?, h]
  · simp [World.frozen?, h]
theorem put4 {w : World} {B T : Nat} {a0 a1 a2 a3 : Value} (h : w.heap[B]? = some (.cells #[a0, a1, a2, a3] T)) (x y z u : Value) : ∃ W, Put4 w W B T x y z u := by
  have h1 : (w.setCell ⟨B, 0, none⟩ x).heap[B]? = some (.cells #[x, a1, a2, a3] T) := heap_setCell_same w B 0 _ _ _ h
  have h2 : ((w.setCell ⟨B, 0, none⟩ x).setCell ⟨B, 1, none⟩ y).heap[B]? = some (.cells #[x, y, a2, a3] T) := heap_setCell_same _ B 1 _ _ _ h1
  have h3 : (((w.setCell ⟨B, 0, none⟩ x).setCell ⟨B, 1, none⟩ y).setCell ⟨B, 2, none⟩ z).heap[B]? = some (.cells #[x, y, z, a3] T) := heap_setCell_same _ B 2 _ _ _ h2
  have h4 : ((((w.setCell ⟨B, 0, none⟩ x).setCell ⟨B, 1, none⟩ y).setCell ⟨B, 2, none⟩ z).setCell ⟨B, 3, none⟩ u).heap[B]? = some (.cells #[x, y, z, u] T) := heap_setCell_same _ B 3 _ _ _ h3
  exact ⟨_, ⟨_, (four_c h).1.1⟩, (four_c h).2 0, ⟨_, (four_c h1).1.2.1⟩, (four_c h1).2 1, ⟨_, (four_c h2).1.2.2.1⟩, (four_c h2).2 2, ⟨_, (four_c h3).1.2.2.2⟩, (four_c h3).2 3, rfl, h4,
    ⟨rfl, rfl, rfl, by simp, fun k hk hne => (heap_setCell_other _ ⟨B, 3, none⟩ k _ (fun e => hne (by rw [e]))).trans ((heap_setCell_other _ ⟨B, 2, none⟩ k _ (fun e => hne (by rw [e]))).trans ((heap_setCell_other _ ⟨B, 1, none⟩ k _ (fun e => hne (by rw [e]))).trans (heap_setCell_other _ ⟨B, 0, none⟩ k _ (fun e => hne (by rw [e])))))⟩⟩

/-! ### the closure -/
theorem runWay (x : Ret) (a : Int) (P : Nat) (w : World) (h : w.cell? ⟨P, 0, none⟩ = some (.int .i64 a)) :
    Calls Try.prog 55 #[.agg (litRt x), .pointer (some ⟨P, 0, none⟩)] w fun e w' => e = .returned (.bool (x.car == a)) ∧ Below w.heap.size w w' := by
  obtain ⟨s0, s1, s2, s3⟩ := x
  rw [show litRt ⟨s0, s1, s2, s3⟩ = #[.int .i64 s0, .int .i64 s1, .int .i64 s2, .int .i64 s3] from rfl]
  simp only
  have hb0 : Below w.heap.size w (w.alloc (.cells #[.int .i64 s0, .int .i64 s1, .int .i64 s2, .int .i64 s3] 66)) := (Below.refl _ _).alloc (Nat.le_refl _) _
  have h0 := (hb0.cell (p := ⟨P, 0, none⟩) (World.block_lt_of_cell? _ _ h)).trans h
  obtain ⟨⟨k0, k1, k2, k3⟩, -⟩ := four_c (heap_alloc_new w (.cells #[.int .i64 s0, .int .i64 s1, .int .i64 s2, .int .i64 s3] 66))
  have HB0 := Lib.hid hb0
  clear h hb0
  go_enter Try.func55, Try.ntmps55
  go_wp2_with fail
  go_ret
  exact ⟨rfl, HB0.out⟩
set_option maxRecDepth 100000 in
theorem canRunWay : CanCall 55 := fun _ _ => rfl


end Go.Proofs.Ytdhiefgbajogcaa

namespace Go.Proofs.Ytdhiefgbajogcaa
open Go.RowKit

/-! ### Served -/
theorem srvPaper (x : Ret) (a : Int) (P : Nat) (w : World) (h : w.cell? ⟨P, 0, none⟩ = some (.int .i64 a)) :
    Calls Try.prog 60 #[.agg (litRt x), .pointer (some ⟨P, 0, none⟩)] w fun e w' => e = .returned (.bool (x.car == a)) ∧ Below w.heap.size w w' := by
  obtain ⟨s0, s1, s2, s3⟩ := x
  rw [show litRt ⟨s0, s1, s2, s3⟩ = #[.int .i64 s0, .int .i64 s1, .int .i64 s2, .int .i64 s3] from rfl]
  simp only
  have hb0 : Below w.heap.size w (w.alloc (.cells #[.int .i64 s0, .int .i64 s1, .int .i64 s2, .int .i64 s3] 63)) := (Below.refl _ _).alloc (Nat.le_refl _) _
  have h0 := (hb0.cell (p := ⟨P, 0, none⟩) (World.block_lt_of_cell? _ _ h)).trans h
  obtain ⟨⟨k0, k1, k2, k3⟩, -⟩ := four_c (heap_alloc_new w (.cells #[.int .i64 s0, .int .i64 s1, .int .i64 s2, .int .i64 s3] 63))
  have HB0 := Lib.hid hb0
  clear h hb0
  go_enter Try.func60, Try.ntmps60
  go_wp2_with fail
  go_ret
  exact ⟨rfl, HB0.out⟩
set_option maxRecDepth 100000 in
theorem canSrvPaper : CanCall 60 := fun _ _ => rfl

set_option maxHeartbeats 1000000 in
theorem srvDel (x : Dl) (a : Int) (papers : List Ret) (i : Nat) (hi : i < papers.length) (v : Value) (A P I : Nat) (w : World) (hA : w.cell? ⟨A, 0, none⟩ = some (.int .i64 a)) (hP : w.cell? ⟨P, 0, none⟩ = some v) (hI : w.cell? ⟨I, 0, none⟩ = some (.int .i64 i)) (hx : IsRts w v papers) :
    Calls Try.prog 62 #[.agg (litDl x), .pointer (some ⟨A, 0, none⟩), .pointer (some ⟨P, 0, none⟩), .pointer (some ⟨I, 0, none⟩)] w fun e w' => e = .returned (.bool (x.att == a && x.par == papers[i].kind)) ∧ Below w.heap.size w w' := by
  obtain ⟨s0, s1, s2⟩ := x
  rw [show litDl ⟨s0, s1, s2⟩ = #[.int .i64 s0, .int .i64 s1, .int .i64 s2] from rfl]
  simp only
  have hb0 : Below w.heap.size w (w.alloc (.cells #[.int .i64 s0, .int .i64 s1, .int .i64 s2] 97)) := (Below.refl _ _).alloc (Nat.le_refl _) _
  obtain ⟨b, o, q, rfl, -, c0, c1, c2, c3⟩ := hx.at hi
  have hlt := World.block_lt_of_cell? _ _ c1
  have H1 := hb0.trans ((Below.refl w.heap.size _).drew)
  have hA0 : Hid ((w.alloc (.cells #[.int .i64 s0, .int .i64 s1, .int .i64 s2] 97)).cell? ⟨A, 0, none⟩ = some (.int .i64 a)) := (hb0.cell (p := ⟨A, 0, none⟩) (World.block_lt_of_cell? _ _ hA)).trans hA
  have hP0 : Hid ((w.alloc (.cells #[.int .i64 s0, .int .i64 s1, .int .i64 s2] 97)).cell? ⟨P, 0, none⟩ = some (.slice (some ⟨b, o, none⟩) papers.length q)) := (hb0.cell (p := ⟨P, 0, none⟩) (World.block_lt_of_cell? _ _ hP)).trans hP
  have hI0 : Hid ((w.alloc (.cells #[.int .i64 s0, .int .i64 s1, .int .i64 s2] 97)).cell? ⟨I, 0, none⟩ = some (.int .i64 i)) := (hb0.cell (p := ⟨I, 0, none⟩) (World.block_lt_of_cell? _ _ hI)).trans hI
  have hC0 : Hid ((w.alloc (.cells #[.int .i64 s0, .int .i64 s1, .int .i64 s2] 97)).cell? ⟨b, o + i * 4 + 1, none⟩ = some (.int .i64 papers[i].kind)) := (hb0.cell (p := ⟨b, o + i * 4 + 1, none⟩) hlt).trans c1
  obtain ⟨⟨k0, k1, k2⟩, -⟩ := three_c (heap_alloc_new w (.cells #[.int .i64 s0, .int .i64 s1, .int .i64 s2] 97))
  have hiI : (i : Int) < (papers.length : Int) := by omega
  have hiN : ¬ (i : Int) < 0 := by omega
  have HB0 := Lib.hid H1
  have hA1 := hA0.out
  have hP1 := hP0.out
  have hI1 := hI0.out
  have hC1 := hC0.out
  clear hA hP hI hx hb0 H1 c0 c1 c2 c3 hlt hA0 hP0 hI0 hC0
  generalize papers[i].kind = kp at *
  by_cases h1 : s0 = a
  · subst h1
    go_enter Try.func62, Try.ntmps62
    go_wp2_with fail
    go_region
    go_wp2_with fail
    go_ret
    exact ⟨by simp, HB0.out⟩
  · have h2 : (s0 == a) = false := by simpa using h1
    clear h1
    go_enter Try.func62, Try.ntmps62
    go_wp2_with fail
    go_region
    go_wp2_with fail
    go_ret
    exact ⟨by simp [h2], HB0.out⟩
set_option maxRecDepth 100000 in
theorem canSrvDel : CanCall 62 := fun _ _ => rfl

/-- The day of the delivery to the party, if there is one. -/
def srvF (l : List Dl) (a par : Int) : Int × Bool := match l.find? (fun d => d.att == a && d.par == par) with
  | none => (0, false)
  | some d => (d.day, true)
theorem srvF_of {l : List Dl} {a par : Int} : (idxF (fun d : Dl => d.att == a && d.par == par) l = -1 ∧ srvF l a par = (0, false)) ∨ ∃ j, ∃ hj : j < l.length, idxF (fun d : Dl => d.att == a && d.par == par) l = (j : Int) ∧ srvF l a par = (l[j].day, true) := by
  cases h : l.findIdx? (fun d : Dl => d.att == a && d.par == par) with
  | none =>
    left
    have h2 : l.find? (fun d : Dl => d.att == a && d.par == par) = none := by
      rw [List.findIdx?_eq_none_iff] at h
      rw [List.find?_eq_none]
      intro x hx
      rw [h x hx]
      decide
    unfold idxF srvF
    rw [h, h2]
    exact ⟨rfl, rfl⟩
  | some j =>
    right
    obtain ⟨hj, h1, h2⟩ := List.findIdx?_eq_some_iff_getElem.1 h
    have h3 : l.find? (fun d : Dl => d.att == a && d.par == par) = some l[j] := by
      rw [List.find?_eq_some_iff_getElem]
      exact ⟨h1, j, hj, rfl, fun i hi => by have h5 := h2 i hi; simp only [Bool.not_eq_true] at h5; rw [h5]; rfl⟩
    unfold idxF srvF
    rw [h, h3]
    exact ⟨j, hj, rfl, rfl⟩

def AttIdx (papers : List Ret) : Prop := ∀ (i : Nat) (h : i < papers.length), papers[i].car = (i : Int)
theorem AttIdx.find {papers : List Ret} (h : AttIdx papers) {i : Nat} (hi : i < papers.length) : idxF (fun x : Ret => x.car == (i : Int)) papers = (i : Int) :=
  idxF_here hi (fun j hj hji => by
    have e := h j hj
    have hne : ¬ papers[j].car = (i : Int) := by omega
    simpa using hne) (by simp [h i hi])

set_option maxHeartbeats 1000000 in
set_option maxRecDepth 100000 in
theorem served_cr (l : List Dl) (papers : List Ret) (i : Nat) (v y : Value) (w : World) (hx : IsDls w v l) (hy : IsRts w y papers) (ha : AttIdx papers) (hi : i < papers.length) :
    Calls Try.prog 31 #[v, y, .int .i64 i] w fun e w' => e = .returned (.tuple #[.int .i64 (srvF l i papers[i].kind).1, .bool (srvF l i papers[i].kind).2]) ∧ Below w.heap.size w w' := by
  obtain ⟨P, hP⟩ : ∃ P, P = w.heap.size := ⟨_, rfl⟩
  obtain ⟨a1, c1, rfl, -, -⟩ := hx.open
  obtain ⟨a2, c2, rfl, hym, -⟩ := hy.open
  obtain ⟨W0, hW0⟩ : ∃ W0, W0 = (w.alloc (.cells #[.slice a2 papers.length c2] 60)).alloc (.cells #[.int .i64 (i : Int)] 3) := ⟨_, rfl⟩
  have hb0 : Below w.heap.size w W0 := by rw [hW0]; exact ((Below.refl _ _).alloc (Nat.le_refl _) _).alloc (by simp) _
  have cP : W0.cell? ⟨P, 0, none⟩ = some (.slice a2 papers.length c2) := by
    rw [hW0, hP]
    exact (((Below.refl (w.alloc (.cells #[.slice a2 papers.length c2] 60)).heap.size _).alloc (Nat.le_refl _) _).cell (p := ⟨w.heap.size, 0, none⟩) (by simp)).trans ((cells_alloc w #[.slice a2 papers.length c2] 60 0).trans rfl)
  have cA : W0.cell? ⟨P + 1, 0, none⟩ = some (.int .i64 (i : Int)) := by
    have h := cells_alloc (w.alloc (.cells #[.slice a2 papers.length c2] 60)) #[.int .i64 (i : Int)] 3 0
    rw [World.size_alloc] at h
    rw [hW0, hP]
    exact h.trans rfl
  have hz : P + 1 < W0.heap.size := by rw [hW0, hP]; simp
  have H1 := findPaper papers (fun x : Ret => x.car == (i : Int)) 60 #[.pointer (some ⟨P + 1, 0, none⟩)] _ W0 (hy.below hb0) canSrvPaper
    (fun k hk W hW => srvPaper papers[k] i (P + 1) W ((hW.cell (p := ⟨P + 1, 0, none⟩) hz).trans cA))
  rw [ha.find hi] at H1
  have H1 := Lib.hid H1
  have H2 : Hid (∀ w2, Below W0.heap.size W0 w2 → Calls Try.prog 61 #[.slice a1 l.length c1, .func (.func 62) #[] #[.pointer (some ⟨P + 1, 0, none⟩), .pointer (some ⟨P, 0, none⟩), .pointer (some ⟨w2.heap.size, 0, none⟩)]] (w2.alloc (.cells #[.int .i64 (i : Int)] 3)) fun e w' => e = .returned (.int .i64 (idxF (fun d : Dl => d.att == (i : Int) && d.par == papers[i].kind) l)) ∧ Below (w2.alloc (.cells #[.int .i64 (i : Int)] 3)).heap.size (w2.alloc (.cells #[.int .i64 (i : Int)] 3)) w') := fun w2 h2 => by
    have h3 : Below W0.heap.size W0 (w2.alloc (.cells #[.int .i64 (i : Int)] 3)) := h2.alloc h2.size _
    refine findDelivery l (fun d : Dl => d.att == (i : Int) && d.par == papers[i].kind) 62 _ _ _ ((hx.below hb0).below h3) canSrvDel (fun k hk W hW => ?_)
    have h4 := Below.to h3 hW h3.size
    refine srvDel l[k] i papers i hi _ (P + 1) P w2.heap.size W ((h4.cell (p := ⟨P + 1, 0, none⟩) hz).trans cA) ((h4.cell (p := ⟨P, 0, none⟩) (by show P < _; omega)).trans cP) ((hW.cell (p := ⟨w2.heap.size, 0, none⟩) (by simp)).trans ((cells_alloc w2 #[.int .i64 (i : Int)] 3 0).trans rfl)) ((hy.below hb0).below h4)
  have HB0 := Lib.hid hb0
  have HCP : Hid (∀ X, Below W0.heap.size W0 X → X.cell? ⟨P, 0, none⟩ = some (.slice a2 papers.length c2)) := fun X hX => (hX.cell (p := ⟨P, 0, none⟩) (by show P < _; omega)).trans cP
  have HX := Lib.hid hx
  have HW0 := Lib.hid hW0
  have HP := Lib.hid hP
  rw [hW0, hP] at cP
  obtain ⟨RS, hRS⟩ : ∃ RS, idxF (fun d : Dl => d.att == (i : Int) && d.par == papers[i].kind) l = RS := ⟨_, rfl⟩
  have HSF : Hid ((RS = -1 ∧ srvF l i papers[i].kind = (0, false)) ∨ ∃ j, ∃ hj : j < l.length, RS = (j : Int) ∧ srvF l i papers[i].kind = (l[j].day, true)) := by
    show _ ∨ _
    rw [← hRS]
    exact srvF_of
  rw [hRS] at H2
  generalize srvF l (i : Int) papers[i].kind = sr at *
  have hiN : ¬ (i : Int) < 0 := by omega
  clear hx hy ha hi hb0 cA hz hW0 hP hRS hym
  go_enter Try.func31, Try.ntmps31
  go_wp2_with fail
  rw [← HW0.out, ← HP.out]
  refine H1.out.mono ?_
  rintro e w2 ⟨rfl, hb2⟩
  have HB2 := Lib.hid hb2
  have H3 := Lib.hid (H2.out w2 hb2)
  have ci := (cells_alloc w2 #[.int .i64 (i : Int)] 3 0).trans rfl
  clear hb2 H1 H2 cP
  go_wp2_with fail
  refine H3.out.mono ?_
  rintro e w3 ⟨rfl, hb3⟩
  have HB3 := Lib.hid (Below.to HB0.out (Below.to (HB2.out.alloc HB2.out.size (.cells #[.int .i64 (i : Int)] 3)) hb3 (HB2.out.alloc HB2.out.size (.cells #[.int .i64 (i : Int)] 3)).size) HB0.out.size)
  clear hb3 H3 ci
  rcases HSF.out with ⟨rfl, rfl⟩ | ⟨j, hj, rfl, rfl⟩
  · clear HSF
    go_wp2_with fail
    go_ret2
    exact ⟨rfl, HB3.out⟩
  · clear HSF
    obtain ⟨b5, o5, q5, e5, hb5, d0, d1, d2⟩ := (HX.out.below HB3.out).at hj
    simp only [Value.slice.injEq, true_and] at e5
    obtain ⟨rfl, -⟩ := e5
    have hjI : (j : Int) < (l.length : Int) := by omega
    have hjN : ¬ (j : Int) < 0 := by omega
    obtain ⟨⟨s0, s1, s2⟩, hs⟩ : ∃ s, l[j] = s := ⟨_, rfl⟩
    rw [hs] at d0 d1 d2
    have HS : Hid (l[j].day = s2) := by show _ = _; rw [hs]
    simp only at d0 d1 d2
    clear hs
    go_wp2_with fail
    go_ret2
    refine ⟨?_, HB3.out⟩
    rw [show l[j].day = s2 from HS.out]
    rfl

end Go.Proofs.Ytdhiefgbajogcaa

namespace Go.Proofs.Ytdhiefgbajogcaa
open Go.RowKit

theorem withinC (n most : Int) (h0 : 0 ≤ n) (h1 : n < most) (w : World) : Calls Try.prog 49 #[.int .i64 n, .int .i64 most] w fun e w' => e = .returned (.bool true) ∧ w = w' := by
  go_enter Try.func49, Try.ntmps49
  go_wp2_with fail
  go_ret
  simp

theorem chkPaper (x : Ret) (a : Int) (P : Nat) (w : World) (h : w.cell? ⟨P, 0, none⟩ = some (.int .i64 a)) :
    Calls Try.prog 51 #[.agg (litRt x), .pointer (some ⟨P, 0, none⟩)] w fun e w' => e = .returned (.bool (x.car == a)) ∧ Below w.heap.size w w' := by
  obtain ⟨s0, s1, s2, s3⟩ := x
  rw [show litRt ⟨s0, s1, s2, s3⟩ = #[.int .i64 s0, .int .i64 s1, .int .i64 s2, .int .i64 s3] from rfl]
  simp only
  have hb0 : Below w.heap.size w (w.alloc (.cells #[.int .i64 s0, .int .i64 s1, .int .i64 s2, .int .i64 s3] 63)) := (Below.refl _ _).alloc (Nat.le_refl _) _
  have h0 := (hb0.cell (p := ⟨P, 0, none⟩) (World.block_lt_of_cell? _ _ h)).trans h
  obtain ⟨⟨k0, k1, k2, k3⟩, -⟩ := four_c (heap_alloc_new w (.cells #[.int .i64 s0, .int .i64 s1, .int .i64 s2, .int .i64 s3] 63))
  have HB0 := Lib.hid hb0
  clear h hb0
  go_enter Try.func51, Try.ntmps51
  go_wp2_with fail
  go_ret
  exact ⟨rfl, HB0.out⟩
set_option maxRecDepth 100000 in
theorem canChk1 : CanCall 51 := fun _ _ => rfl
theorem chkPaper2 (x : Ret) (a : Int) (P : Nat) (w : World) (h : w.cell? ⟨P, 0, none⟩ = some (.int .i64 a)) :
    Calls Try.prog 52 #[.agg (litRt x), .pointer (some ⟨P, 0, none⟩)] w fun e w' => e = .returned (.bool (x.car == a)) ∧ Below w.heap.size w w' := by
  obtain ⟨s0, s1, s2, s3⟩ := x
  rw [show litRt ⟨s0, s1, s2, s3⟩ = #[.int .i64 s0, .int .i64 s1, .int .i64 s2, .int .i64 s3] from rfl]
  simp only
  have hb0 : Below w.heap.size w (w.alloc (.cells #[.int .i64 s0, .int .i64 s1, .int .i64 s2, .int .i64 s3] 63)) := (Below.refl _ _).alloc (Nat.le_refl _) _
  have h0 := (hb0.cell (p := ⟨P, 0, none⟩) (World.block_lt_of_cell? _ _ h)).trans h
  obtain ⟨⟨k0, k1, k2, k3⟩, -⟩ := four_c (heap_alloc_new w (.cells #[.int .i64 s0, .int .i64 s1, .int .i64 s2, .int .i64 s3] 63))
  have HB0 := Lib.hid hb0
  clear h hb0
  go_enter Try.func52, Try.ntmps52
  go_wp2_with fail
  go_ret
  exact ⟨rfl, HB0.out⟩
set_option maxRecDepth 100000 in
theorem canChk2 : CanCall 52 := fun _ _ => rfl
theorem chkWay (x : Ret) (a : Int) (P : Nat) (w : World) (h : w.cell? ⟨P, 0, none⟩ = some (.int .i64 a)) :
    Calls Try.prog 54 #[.agg (litRt x), .pointer (some ⟨P, 0, none⟩)] w fun e w' => e = .returned (.bool (x.car == a)) ∧ Below w.heap.size w w' := by
  obtain ⟨s0, s1, s2, s3⟩ := x
  rw [show litRt ⟨s0, s1, s2, s3⟩ = #[.int .i64 s0, .int .i64 s1, .int .i64 s2, .int .i64 s3] from rfl]
  simp only
  have hb0 : Below w.heap.size w (w.alloc (.cells #[.int .i64 s0, .int .i64 s1, .int .i64 s2, .int .i64 s3] 66)) := (Below.refl _ _).alloc (Nat.le_refl _) _
  have h0 := (hb0.cell (p := ⟨P, 0, none⟩) (World.block_lt_of_cell? _ _ h)).trans h
  obtain ⟨⟨k0, k1, k2, k3⟩, -⟩ := four_c (heap_alloc_new w (.cells #[.int .i64 s0, .int .i64 s1, .int .i64 s2, .int .i64 s3] 66))
  have HB0 := Lib.hid hb0
  clear h hb0
  go_enter Try.func54, Try.ntmps54
  go_wp2_with fail
  go_ret
  exact ⟨rfl, HB0.out⟩
set_option maxRecDepth 100000 in
theorem canChk3 : CanCall 54 := fun _ _ => rfl

/-- Ways of such papers: their attempts rise. -/
structure WaysOk (papers ways : List Ret) : Prop where
  rise : ∀ (i j : Nat) (hi : i < ways.length) (hj : j < ways.length), i < j → ways[i].car < ways[j].car
  att : ∀ x ∈ ways, 0 ≤ x.car ∧ x.car < papers.length
  num : ∀ x ∈ ways, (0 ≤ x.kind ∧ x.kind < 6) ∧ (0 ≤ x.fr ∧ x.fr < 1001) ∧ (0 ≤ x.un ∧ x.un < 64)
structure PapersOk (papers : List Ret) : Prop where
  idx : AttIdx papers
  len : papers.length ≤ 1000
  num : ∀ x ∈ papers, (0 ≤ x.kind ∧ x.kind < 64) ∧ (0 ≤ x.fr ∧ x.fr < 16) ∧ (0 ≤ x.un ∧ x.un < 3652059)

set_option maxHeartbeats 4000000 in
set_option maxRecDepth 100000 in
theorem check_cr (papers ways : List Ret) (v y : Value) (w : World) (hx : IsRts w v papers) (hy : IsRts w y ways) (hp : PapersOk papers) (hw : WaysOk papers ways) :
    Calls Try.prog 29 #[v, y] w fun e w' => e = .returned (.int .i64 0) ∧ Below w.heap.size w w' := by
  have HX := Lib.hid hx
  have HY := Lib.hid hy
  have HP := Lib.hid hp
  have HW := Lib.hid hw
  have hpl := hp.len
  obtain ⟨a1, c1, rfl, -, -⟩ := hx.open
  obtain ⟨a2, c2, rfl, hym, -⟩ := hy.open
  unfold maxLen at hym
  have HWI : Hid (∀ (n most : Int) (W : World), 0 ≤ n → n < most → Calls Try.prog 49 #[.int .i64 n, .int .i64 most] W fun e w' => e = .returned (.bool true) ∧ W = w') := fun n most W h0 h1 => withinC n most h0 h1 W
  clear hx hy hp hw
  go_enter Try.func29, Try.ntmps29
  go_wp2_with fail
  go_loopw [11] (fun i wr => ∃ k : Nat, i = .int .i64 k ∧ k ≤ papers.length ∧ Hid (Below w.heap.size w wr)) (fun i _ => papers.length - (intOf i).toNat)
  case atStart => exact ⟨0, rfl, Nat.zero_le _, Lib.hid (Below.refl _ _)⟩
  case round =>
    obtain ⟨k, rfl, hk, HB⟩ := hrel
    have ek : IntKind.i64.wrap ((k : Int) + 1) = ((k + 1 : Nat) : Int) := by rw [IntKind.wrap_i64]; omega
    by_cases hkl : k < papers.length
    · have hkI : (k : Int) < (papers.length : Int) := by omega
      obtain ⟨b5, o5, q5, e5, hb5, d0, d1, d2, d3⟩ := (HX.out.below HB.out).at hkl
      simp only [Value.slice.injEq, true_and] at e5
      obtain ⟨rfl, -⟩ := e5
      have hnum := HP.out.num papers[k] (List.getElem_mem hkl)
      have hcar := HP.out.idx k hkl
      have hfin := HP.out.idx.find hkl
      generalize papers[k] = p at *
      obtain ⟨p0, p1, p2, p3⟩ := p
      simp only at d0 d1 d2 d3 hnum hcar
      subst hcar
      obtain ⟨⟨n1, n2⟩, ⟨n3, n4⟩, ⟨n5, n6⟩⟩ := hnum
      have hal := heap_alloc_new wr (.cells #[.int .i64 (k : Int), .int .i64 p1, .int .i64 p2, .int .i64 p3] 63)
      obtain ⟨⟨e0, e1, e2, e3⟩, -⟩ := four_c hal
      have hb1 : Below wr.heap.size wr (wr.alloc (.cells #[.int .i64 (k : Int), .int .i64 p1, .int .i64 p2, .int .i64 p3] 63)) := (Below.refl _ _).alloc (Nat.le_refl _) _
      have HB1 := Lib.hid (Below.to HB.out hb1 HB.out.size)
      have H1 := findPaper papers (fun x : Ret => x.car == (k : Int)) 51 #[.pointer (some ⟨wr.heap.size, 0, none⟩)] _ _ (HX.out.below HB1.out) canChk1
        (fun i hi W hW => chkPaper papers[i] k wr.heap.size W ((hW.cell (p := ⟨wr.heap.size, 0, none⟩) (by simp)).trans e0))
      rw [hfin] at H1
      have H1 := Lib.hid H1
      clear hal hb1 hfin
      go_wp2_with fail
      refine (HWI.out _ _ _ (by omega) (by omega)).mono ?_
      rintro e w' ⟨rfl, rfl⟩
      go_wp2_with fail
      refine (HWI.out _ _ _ (by omega) (by omega)).mono ?_
      rintro e w' ⟨rfl, rfl⟩
      go_wp2_with fail
      refine (HWI.out _ _ _ (by omega) (by omega)).mono ?_
      rintro e w' ⟨rfl, rfl⟩
      go_wp2_with fail
      refine (HWI.out _ _ _ (by omega) (by omega)).mono ?_
      rintro e w' ⟨rfl, rfl⟩
      go_wp2_with fail
      refine H1.out.mono ?_
      rintro e w3 ⟨rfl, hb3⟩
      have HB3 := Lib.hid (Below.to HB1.out hb3 HB1.out.size)
      clear hb3 H1 e0 e1 e2 e3 d0 d1 d2 d3
      go_wp2_with fail
      go_roundw
      case rel => exact ⟨k + 1, by go_num, by omega, HB3⟩
      case measure => simp [intOf]; omega
    · have hkI : ¬ (k : Int) < (papers.length : Int) := by omega
      obtain ⟨wo, rfl⟩ : ∃ wo : World, wo = wr := ⟨_, rfl⟩
      clear ek
      go_wp2_with fail
      go_loopw [46] (fun i wr => ∃ j : Nat, i = .int .i64 j ∧ j ≤ ways.length ∧ Hid (Below w.heap.size w wr)) (fun i _ => ways.length - (intOf i).toNat)
      case atStart => exact ⟨0, rfl, Nat.zero_le _, HB⟩
      case round =>
        obtain ⟨j, rfl, hj, HBJ⟩ := hrel
        by_cases hjl : j < ways.length
        · have ej : IntKind.i64.wrap ((j : Int) + 1) = ((j + 1 : Nat) : Int) := by rw [IntKind.wrap_i64]; omega
          have hjI : (j : Int) < (ways.length : Int) := by omega
          obtain ⟨b5, o5, q5, e5, hb5, d0, d1, d2, d3⟩ := (HY.out.below HBJ.out).at hjl
          simp only [Value.slice.injEq, true_and] at e5
          obtain ⟨rfl, -⟩ := e5
          have hnum := HW.out.num ways[j] (List.getElem_mem hjl)
          have hatt := HW.out.att ways[j] (List.getElem_mem hjl)
          have hfin : idxF (fun x : Ret => x.car == ways[j].car) ways = (j : Int) := idxF_here hjl (fun i hi hij => by
            have hne : ¬ ways[i].car = ways[j].car := by have := HW.out.rise i j hi hjl hij; omega
            simpa using hne) (by simp)
          obtain ⟨A, hA⟩ : ∃ A : Nat, ways[j].car = (A : Int) := ⟨ways[j].car.toNat, by omega⟩
          have hfin2 := HP.out.idx.find (i := A) (by omega)
          rw [hA] at hfin
          generalize ways[j] = x at *
          obtain ⟨x0, x1, x2, x3⟩ := x
          simp only at d0 d1 d2 d3 hnum hA hatt
          subst hA
          obtain ⟨⟨n1, n2⟩, ⟨n3, n4⟩, ⟨n5, n6⟩⟩ := hnum
          have hal := heap_alloc_new wr (.cells #[.int .i64 (A : Int), .int .i64 x1, .int .i64 x2, .int .i64 x3] 66)
          have hb1 : Below wr.heap.size wr (wr.alloc (.cells #[.int .i64 (A : Int), .int .i64 x1, .int .i64 x2, .int .i64 x3] 66)) := (Below.refl _ _).alloc (Nat.le_refl _) _
          have HB1 := Lib.hid (Below.to HBJ.out hb1 HBJ.out.size)
          obtain ⟨⟨e0, e1, e2, e3⟩, -⟩ := four_c hal
          have H1 := findPaper papers (fun x : Ret => x.car == (A : Int)) 52 #[.pointer (some ⟨wr.heap.size, 0, none⟩)] _ _ (HX.out.below HB1.out) canChk2
            (fun i hi W hW => chkPaper2 papers[i] A wr.heap.size W ((hW.cell (p := ⟨wr.heap.size, 0, none⟩) (by simp)).trans e0))
          rw [hfin2] at H1
          have H1 := Lib.hid H1
          have H2 : Hid (∀ W, Below (wr.alloc (.cells #[.int .i64 (A : Int), .int .i64 x1, .int .i64 x2, .int .i64 x3] 66)).heap.size (wr.alloc (.cells #[.int .i64 (A : Int), .int .i64 x1, .int .i64 x2, .int .i64 x3] 66)) W → Calls Try.prog 53 #[.slice (some ⟨b5, o5, none⟩) ways.length c2, .func (.func 54) #[] #[.pointer (some ⟨wr.heap.size, 0, none⟩)]] W fun e w' => e = .returned (.int .i64 (j : Int)) ∧ Below W.heap.size W w') := fun W hW => by
            have h := findWay ways (fun x : Ret => x.car == (A : Int)) 54 #[.pointer (some ⟨wr.heap.size, 0, none⟩)] _ W ((HY.out.below HB1.out).below hW) canChk3
              (fun i hi W' hW' => chkWay ways[i] A wr.heap.size W' (((Below.to hW hW' hW.size).cell (p := ⟨wr.heap.size, 0, none⟩) (by simp)).trans e0))
            rw [hfin] at h
            exact h
          have HF : Hid (∀ W, Below (wr.alloc (.cells #[.int .i64 (A : Int), .int .i64 x1, .int .i64 x2, .int .i64 x3] 66)).heap.size (wr.alloc (.cells #[.int .i64 (A : Int), .int .i64 x1, .int .i64 x2, .int .i64 x3] 66)) W → W.heap[wr.heap.size]? = some (.cells #[.int .i64 (A : Int), .int .i64 x1, .int .i64 x2, .int .i64 x3] 66)) := fun W hW => (hW.block _ (by simp)).trans hal
          have hAN : ¬ (A : Int) < 0 := by omega
          clear hal hb1 hfin hfin2 e1 e2 e3
          go_wp2_with fail
          refine H1.out.mono ?_
          rintro e w3 ⟨rfl, hb3⟩
          have HB3 := Lib.hid (Below.to HB1.out hb3 HB1.out.size)
          have H3 := Lib.hid (H2.out w3 hb3)
          obtain ⟨⟨g0, g1, g2, g3⟩, -⟩ := four_c (HF.out w3 hb3)
          clear hb3 H1 H2 HF e0 d0 d1 d2 d3
          go_wp2_with fail
          refine (HWI.out _ _ _ (by omega) (by omega)).mono ?_
          rintro e w' ⟨rfl, rfl⟩
          go_wp2_with fail
          refine (HWI.out _ _ _ (by omega) (by omega)).mono ?_
          rintro e w' ⟨rfl, rfl⟩
          go_wp2_with fail
          refine (HWI.out _ _ _ (by omega) (by omega)).mono ?_
          rintro e w' ⟨rfl, rfl⟩
          go_wp2_with fail
          refine H3.out.mono ?_
          rintro e w4 ⟨rfl, hb4⟩
          have HB4 := Lib.hid (Below.to HB3.out hb4 HB3.out.size)
          clear hb4 H3 g0 g1 g2 g3
          go_wp2_with fail
          go_roundw
          case rel => exact ⟨j + 1, by go_num, by omega, HB4⟩
          case measure => simp [intOf]; omega
        · have hjI : ¬ (j : Int) < (ways.length : Int) := by omega
          go_wp2_with fail
          go_ret
          exact ⟨rfl, HBJ.out⟩

end Go.Proofs.Ytdhiefgbajogcaa
