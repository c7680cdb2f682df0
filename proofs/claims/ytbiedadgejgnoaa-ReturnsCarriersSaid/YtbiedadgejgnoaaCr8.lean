/-
  Run: the deliveries and the reports of papers and ways. (Printed by wip/tools/gen_cr8.py.)
  A paper is a row of four numbers: attempt, party, carrier, day on which it was sent; a way: attempt, kind, days, party.
-/
import Derived.Test.YtbiedadgejgnoaaCr7
import Derived.Test.YtbiedadgejgnoaaCr2
namespace Go.Proofs.Ytbiedadgejgnoaa
open Go.RowKit

theorem infoDl : (Try.prog.info? 82).map (fun i => (i.zero, i.size, i.bytes)) = some (some (.agg #[.int .i64 0, .int .i64 0, .int .i64 0]), 3, 24) := by kernel_rfl
theorem infoRp : (Try.prog.info? 62).map (fun i => (i.zero, i.size, i.bytes)) = some (some (.agg #[.int .i64 0, .int .i64 0, .int .i64 0, .int .i64 0, .int .i64 0, .int .i64 0]), 6, 48) := by kernel_rfl

/-! ### in plain words -/
def wayF (ways : List Ret) (a : Int) : Ret := match ways.find? (fun x => x.car == a) with
  | none => ⟨0, 0, 1, 0⟩
  | some x => x
def repQ (att car day : Int) (q : Nat) : List Rp := (List.range q).map (fun (i : Nat) => ⟨att, day + 1 + (i : Int), ⟨car, 1, day, day⟩⟩)
theorem repQ_S (att car day : Int) (q : Nat) : repQ att car day (q + 1) = repQ att car day q ++ [⟨att, day + 1 + (q : Int), ⟨car, 1, day, day⟩⟩] := by
  unfold repQ
  rw [List.range_succ, List.map_append]
  rfl
def copiesN (k : Int) : Nat := if k = 2 then 0 else if k = 3 then 2 else 1
def lostB (day k : Int) : Bool := decide (3652058 < day) || decide (k = 1)
def runD1 (p x : Ret) : List Dl := if lostB (p.un + x.fr) x.kind = true then [] else if x.kind = 5 then [] else [⟨p.car, if x.kind = 4 then x.un else p.kind, p.un + x.fr⟩]
def runR1 (p x : Ret) : List Rp := if lostB (p.un + x.fr) x.kind = true then [] else repQ p.car p.fr (p.un + x.fr) (copiesN x.kind)
def runD (ways papers : List Ret) : List Dl := papers.flatMap (fun p => runD1 p (wayF ways p.car))
def runR (ways papers : List Ret) : List Rp := papers.flatMap (fun p => runR1 p (wayF ways p.car))
theorem runD_take (ways papers : List Ret) {k : Nat} (hk : k < papers.length) : runD ways (papers.take (k + 1)) = runD ways (papers.take k) ++ runD1 papers[k] (wayF ways papers[k].car) := by
  unfold runD
  rw [List.take_succ_eq_append_getElem hk, List.flatMap_append]
  simp
theorem runR_take (ways papers : List Ret) {k : Nat} (hk : k < papers.length) : runR ways (papers.take (k + 1)) = runR ways (papers.take k) ++ runR1 papers[k] (wayF ways papers[k].car) := by
  unfold runR
  rw [List.take_succ_eq_append_getElem hk, List.flatMap_append]
  simp
theorem wayF_of {ways : List Ret} {a : Int} : (idxF (fun x : Ret => x.car == a) ways = -1 ∧ wayF ways a = ⟨0, 0, 1, 0⟩) ∨ ∃ j, ∃ hj : j < ways.length, idxF (fun x : Ret => x.car == a) ways = (j : Int) ∧ wayF ways a = ways[j] := by
  cases h : ways.findIdx? (fun x : Ret => x.car == a) with
  | none =>
    left
    have h2 : ways.find? (fun x : Ret => x.car == a) = none := by
      rw [List.findIdx?_eq_none_iff] at h
      rw [List.find?_eq_none]
      intro x hx
      rw [h x hx]
      decide
    unfold idxF wayF
    rw [h, h2]
    exact ⟨rfl, rfl⟩
  | some j =>
    right
    obtain ⟨hj, h1, h2⟩ := List.findIdx?_eq_some_iff_getElem.1 h
    have h3 : ways.find? (fun x : Ret => x.car == a) = some ways[j] := by
      rw [List.find?_eq_some_iff_getElem]
      exact ⟨h1, j, hj, rfl, fun i hi => by have := h2 i hi; simpa using this⟩
    unfold idxF wayF
    rw [h, h3]
    exact ⟨j, hj, rfl, rfl⟩

/-! ### memory -/
/-- Four cells of a block are written, one after the other. -/
structure Put4 (w W : World) (B T : Nat) (x y z u : Value) : Prop where
  c0 : ∃ a, w.cell? ⟨B, 0, none⟩ = some a
  f0 : w.frozen? ⟨B, 0, none⟩ = false
  c1 : ∃ a, (w.setCell ⟨B, 0, none⟩ x).cell? ⟨B, 1, none⟩ = some a
  f1 : (w.setCell ⟨B, 0, none⟩ x).frozen? ⟨B, 1, none⟩ = false
  c2 : ∃ a, ((w.setCell ⟨B, 0, none⟩ x).setCell ⟨B, 1, none⟩ y).cell? ⟨B, 2, none⟩ = some a
  f2 : ((w.setCell ⟨B, 0, none⟩ x).setCell ⟨B, 1, none⟩ y).frozen? ⟨B, 2, none⟩ = false
  c3 : ∃ a, (((w.setCell ⟨B, 0, none⟩ x).setCell ⟨B, 1, none⟩ y).setCell ⟨B, 2, none⟩ z).cell? ⟨B, 3, none⟩ = some a
  f3 : (((w.setCell ⟨B, 0, none⟩ x).setCell ⟨B, 1, none⟩ y).setCell ⟨B, 2, none⟩ z).frozen? ⟨B, 3, none⟩ = false
  e : W = (((w.setCell ⟨B, 0, none⟩ x).setCell ⟨B, 1, none⟩ y).setCell ⟨B, 2, none⟩ z).setCell ⟨B, 3, none⟩ u
  h : W.heap[B]? = some (.cells #[x, y, z, u] T)
  g : w.grownBy W (some B)
theorem four_c {W : World} {B T : Nat} {a0 a1 a2 a3 : Value} (h : W.heap[B]? = some (.cells #[a0, a1, a2, a3] T)) :
    (W.cell? ⟨B, 0, none⟩ = some a0 ∧ W.cell? ⟨B, 1, none⟩ = some a1 ∧ W.cell? ⟨B, 2, none⟩ = some a2 ∧ W.cell? ⟨B, 3, none⟩ = some a3) ∧ ∀ i, W.frozen? ⟨B, i, none⟩ = false := by
  refine ⟨⟨?_, ?_, ?_, ?_⟩, fun i => ?_⟩
  · simp [World.cell?, h]
  · simp [World.cell?, h]
  · simp [World.cell?, h]
  · simp [World.cell?, h]
  · simp [World.frozen?, h]
theorem put4 {w : World} {B T : Nat} {a0 a1 a2 a3 : Value} (h : w.heap[B]? = some (.cells #[a0, a1, a2, a3] T)) (x y z u : Value) : ∃ W, Put4 w W B T x y z u := by
  have h1 : (w.setCell ⟨B, 0, none⟩ x).heap[B]? = some (.cells #[x, a1, a2, a3] T) := heap_setCell_same w B 0 _ _ _ h
  have h2 : ((w.setCell ⟨B, 0, none⟩ x).setCell ⟨B, 1, none⟩ y).heap[B]? = some (.cells #[x, y, a2, a3] T) := heap_setCell_same _ B 1 _ _ _ h1
  have h3 : (((w.setCell ⟨B, 0, none⟩ x).setCell ⟨B, 1, none⟩ y).setCell ⟨B, 2, none⟩ z).heap[B]? = some (.cells #[x, y, z, a3] T) := heap_setCell_same _ B 2 _ _ _ h2
  have h4 : ((((w.setCell ⟨B, 0, none⟩ x).setCell ⟨B, 1, none⟩ y).setCell ⟨B, 2, none⟩ z).setCell ⟨B, 3, none⟩ u).heap[B]? = some (.cells #[x, y, z, u] T) := heap_setCell_same _ B 3 _ _ _ h3
  exact ⟨_, ⟨_, (four_c h).1.1⟩, (four_c h).2 0, ⟨_, (four_c h1).1.2.1⟩, (four_c h1).2 1, ⟨_, (four_c h2).1.2.2.1⟩, (four_c h2).2 2, ⟨_, (four_c h3).1.2.2.2⟩, (four_c h3).2 3, rfl, h4,
    ⟨rfl, rfl, rfl, by simp, fun k hk hne => (heap_setCell_other _ ⟨B, 3, none⟩ k _ (fun e => hne (by rw [e]))).trans ((heap_setCell_other _ ⟨B, 2, none⟩ k _ (fun e => hne (by rw [e]))).trans ((heap_setCell_other _ ⟨B, 1, none⟩ k _ (fun e => hne (by rw [e]))).trans (heap_setCell_other _ ⟨B, 0, none⟩ k _ (fun e => hne (by rw [e])))))⟩⟩

/-! ### the closure -/
theorem runWay (x : Ret) (a : Int) (P : Nat) (w : World) (h : w.cell? ⟨P, 0, none⟩ = some (.int .i64 a)) :
    Calls Try.prog 46 #[.agg (litRt x), .pointer (some ⟨P, 0, none⟩)] w fun e w' => e = .returned (.bool (x.car == a)) ∧ Below w.heap.size w w' := by
  obtain ⟨s0, s1, s2, s3⟩ := x
  rw [show litRt ⟨s0, s1, s2, s3⟩ = #[.int .i64 s0, .int .i64 s1, .int .i64 s2, .int .i64 s3] from rfl]
  simp only
  have hb0 : Below w.heap.size w (w.alloc (.cells #[.int .i64 s0, .int .i64 s1, .int .i64 s2, .int .i64 s3] 55)) := (Below.refl _ _).alloc (Nat.le_refl _) _
  have h0 := (hb0.cell (p := ⟨P, 0, none⟩) (World.block_lt_of_cell? _ _ h)).trans h
  obtain ⟨⟨k0, k1, k2, k3⟩, -⟩ := four_c (heap_alloc_new w (.cells #[.int .i64 s0, .int .i64 s1, .int .i64 s2, .int .i64 s3] 55))
  have HB0 := Lib.hid hb0
  clear h hb0
  go_enter Try.func46, Try.ntmps46
  go_wp2_with fail
  go_ret
  exact ⟨rfl, HB0.out⟩
set_option maxRecDepth 100000 in
theorem canRunWay : CanCall 46 := fun _ _ => rfl


end Go.Proofs.Ytbiedadgejgnoaa
