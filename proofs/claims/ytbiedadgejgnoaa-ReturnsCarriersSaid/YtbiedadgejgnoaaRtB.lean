/-
  What a round over the segments keeps: the boxes, the row of spans, the iterator's ints. No code in sight.
-/
import Derived.Test.YtbiedadgejgnoaaRtI
namespace Go.Proofs.Ytbiedadgejgnoaa
open Go.RowKit

def endOf (sent : Int) (xs : List (Int × Int)) : Int := match xs.getLast? with
  | none => sent
  | some s => s.2 + 1
theorem endOf_nil (sent : Int) : endOf sent [] = sent := rfl
theorem endOf_snoc (sent : Int) (xs : List (Int × Int)) (x : Int × Int) : endOf sent (xs ++ [x]) = x.2 + 1 := by unfold endOf; simp

theorem segs_len (ds : List Int) : (segs ds).length = ds.length - 1 := by simp [segs]
theorem segs_get (ds : List Int) (j : Nat) (h : j < ds.length - 1) : (segs ds)[j]? = some (ds.getD j 0, ds.getD (j + 1) 0 - 1) := by
  unfold segs
  rw [List.getElem?_map, List.getElem?_range h]
  rfl
theorem seg_ends {ds : List Int} {sent : Int} (h0 : 0 < ds.length) (hf : ds[0] = sent) : ∀ (xs ys : List (Int × Int)), segs ds = xs ++ ys → endOf sent xs = ds.getD xs.length 0 := by
  intro xs ys he
  rcases List.eq_nil_or_concat xs with rfl | ⟨zs, z, rfl⟩
  · simp [endOf_nil, List.getD, List.getElem?_eq_getElem h0, hf]
  · rw [List.concat_eq_append] at he ⊢
    rw [endOf_snoc]
    have hl := congrArg List.length he
    rw [segs_len] at hl
    simp at hl
    have h1 := segs_get ds zs.length (by omega)
    rw [he] at h1
    simp at h1
    rw [h1]
    simp

theorem up_ge {ds : List Int} (h : ds.Pairwise (· < ·)) : ∀ (i : Nat) (hi : i < ds.length), ds[0] + i ≤ ds[i]
  | 0, hi => by simp
  | i + 1, hi => by
    have h1 := up_ge h i (by omega)
    have h2 := up_get h (Nat.lt_succ_self i) hi
    simp only [Nat.succ_eq_add_one] at h2
    omega

/-- What is known of the next segment. -/
theorem SegS.at {l : List Ret} {sent : Int} {pre post : List (Int × Int)} {x : Int × Int} (h : SegS l sent (pre ++ x :: post)) (hs0 : 0 ≤ sent) (hs : sent ≤ 3652058) :
    x.1 = endOf sent pre ∧ x.1 ≤ x.2 ∧ 0 ≤ x.1 ∧ x.2 ≤ 3652058 ∧ (∀ (cs : List (Int × Int)) (d : Int), x.1 ≤ d → d ≤ x.2 → excF l cs d = excF l cs x.1) ∧ pre.length ≤ 3652059 := by
  obtain ⟨ds, hg, he⟩ := h
  obtain ⟨h0, hf⟩ := hg.first hs
  have hl := congrArg List.length he
  rw [segs_len] at hl
  simp at hl
  have hj : pre.length + 1 < ds.length := by omega
  have h1 := segs_get ds pre.length (by omega)
  rw [← he] at h1
  simp at h1
  have hE := seg_ends h0 hf pre (x :: post) he.symm
  have g0 : ds.getD pre.length 0 = ds[pre.length] := by rw [List.getD_eq_getElem?_getD, List.getElem?_eq_getElem (by omega)]; rfl
  have g1 : ds.getD (pre.length + 1) 0 = ds[pre.length + 1] := by rw [List.getD_eq_getElem?_getD, List.getElem?_eq_getElem (by omega)]; rfl
  simp only [List.getD_eq_getElem?_getD] at g0 g1 hE
  rw [g0, g1] at h1
  rw [g0] at hE
  have hsm := fun cs => hg.same (cs := cs) hs0 hs hj
  have hup := up_ge hg.up (pre.length + 1) hj
  obtain ⟨k1, k2, k3, -⟩ := hsm []
  refine ⟨?_, ?_, ?_, ?_, fun cs d h2 h3 => ?_, ?_⟩
  · rw [hE, h1]
  · rw [h1]; exact k1
  · rw [h1]; simp only; omega
  · rw [h1]; simp only; omega
  · obtain ⟨-, -, -, k4⟩ := hsm cs
    rw [h1] at h2 h3 ⊢
    exact k4 d h2 h3
  · omega

theorem SegS.end {l : List Ret} {sent : Int} {xs : List (Int × Int)} (h : SegS l sent xs) (hs : sent ≤ 3652058) : endOf sent xs = 3652059 := by
  obtain ⟨ds, hg, rfl⟩ := h
  obtain ⟨h0, hf⟩ := hg.first hs
  obtain ⟨h1, hla⟩ := hg.last hs
  rw [seg_ends h0 hf (segs ds) [] (by simp), segs_len]
  rw [List.getD_eq_getElem?_getD, List.getElem?_eq_getElem (by omega)]
  exact hla

theorem five_boxes (w : World) (t1 t2 t3 t4 t5 : TypeId) (v1 v2 v3 v4 v5 : Value) (W : World) (hW : W = ((((w.alloc (.cells #[v1] t1)).alloc (.cells #[v2] t2)).alloc (.cells #[v3] t3)).alloc (.cells #[v4] t4)).alloc (.cells #[v5] t5)) :
    Boxed W w.heap.size t1 v1 ∧ Boxed W (w.heap.size + 1) t2 v2 ∧ Boxed W (w.heap.size + 1 + 1) t3 v3 ∧ Boxed W (w.heap.size + 1 + 1 + 1) t4 v4 ∧ Boxed W (w.heap.size + 1 + 1 + 1 + 1) t5 v5 ∧ Below w.heap.size w W ∧ W.heap.size = w.heap.size + 5 := by
  have key : ∀ (X : World) (k : Nat) (t : TypeId) (v : Value), X.heap.size = k → Boxed (X.alloc (.cells #[v] t)) k t v := fun X k t v h => by rw [← h]; exact Boxed.new X t v
  subst hW
  refine ⟨((((Boxed.new w t1 v1).alloc _).alloc _).alloc _).alloc _, ?_, ?_, ?_, ?_, ?_, by simp⟩
  · exact (((key _ _ t2 v2 (by simp)).alloc _).alloc _).alloc _
  · exact ((key _ _ t3 v3 (by simp)).alloc _).alloc _
  · exact (key _ _ t4 v4 (by simp)).alloc _
  · exact key _ _ t5 v5 (by simp)
  · exact (((((Below.refl _ _).alloc (Nat.le_refl _) _).alloc (by simp) _).alloc (by simp; omega) _).alloc (by simp; omega) _).alloc (by simp; omega) _

/-- A step of a round. -/
def Rnd (Bx : Nat) (W W' : World) : Prop := KeepsOthers W W' ∧ KpSeg Bx W W'
theorem Rnd.refl (Bx : Nat) (W : World) : Rnd Bx W W := ⟨KeepsOthers.refl W, fun _ _ _ _ _ => rfl⟩
theorem Rnd.trans {Bx : Nat} {A B C : World} (h : Rnd Bx A B) (k : Rnd Bx B C) : Rnd Bx A C := ⟨h.1.trans k.1, h.2.trans k.2⟩
theorem Rnd.grown {Bx : Nat} {W W' : World} (hg : W.grownBy W' none) : Rnd Bx W W' :=
  ⟨KeepsOthers.of_grownBy hg (fun j o h => by cases h), fun k cur fz _ hi => hg.block k (Array.getElem?_eq_some_iff.1 hi).1 (by simp)⟩
theorem Rnd.below {Bx : Nat} {W W' : World} (hb : Below W.heap.size W W') : Rnd Bx W W' := Rnd.grown (grown_of_below hb)
theorem Rnd.row {Bx B e s n : Nat} {W W' : World} {v : Value} {xs : List Value} (ho : W.ownsRow B e s v n xs) (he : e ≠ 3) (hg : W.grownBy W' v.ownBlock) : Rnd Bx W W' := by
  refine ⟨KeepsOthers.of_grownBy hg (fun j o h1 h2 => ?_), fun k cur fz _ hi => hg.block k (Array.getElem?_eq_some_iff.1 hi).1 (fun h1 => ?_)⟩
  · rcases ho.2 with ⟨rfl, -⟩ | ⟨g, cap, cu, rfl, hb, hgg, -⟩
    · simp [Value.ownBlock] at h1
    · simp only [Value.ownBlock, Option.some.injEq] at h1
      subst h1
      rw [hgg] at h2
      cases h2
      rfl
  · rcases ho.2 with ⟨rfl, -⟩ | ⟨g, cap, cu, rfl, hb, hgg, -⟩
    · simp [Value.ownBlock] at h1
    · simp only [Value.ownBlock, Option.some.injEq] at h1
      subst h1
      rw [hgg] at hi
      cases hi
      exact he rfl
theorem Rnd.cell {Bx B t : Nat} {W : World} {cur : Array Value} {fz : Nat × Nat} (h : W.heap[B]? = some (.cells cur t fz)) (hne : B = Bx ∨ t ≠ 3) (off : Nat) (u : Value) : Rnd Bx W (W.setCell ⟨B, off, none⟩ u) := by
  refine ⟨KeepsOthers.setCell W _ u, fun k cu fy hk hi => Below.heap_setCell _ _ _ _ (fun e => ?_)⟩
  simp only at e
  subst e
  rcases hne with h1 | h1
  · exact hk h1
  · rw [h] at hi
    cases hi
    exact h1 rfl

/-- What the rounds keep: the three boxes, the row, the boxes of the arguments. -/
structure AlAt (S1 : Nat) (w : World) (v u : Value) (least : Int) (nv : Bool) (vo : Value) (out : List (Int × Int)) (W : World) : Prop where
  b8 : Boxed W S1 3 (.int .i64 least)
  b9 : Boxed W (S1 + 1) 4 (.bool nv)
  b10 : Boxed W (S1 + 1 + 1) 33 vo
  row : W.ownsRow w.heap.size 44 2 vo out.length (spCells out)
  bl : Boxed W w.heap.size 24 v
  bc : Boxed W (w.heap.size + 1) 23 u
  bel : Below w.heap.size w W
  lt : S1 + 5 ≤ W.heap.size
  lw : w.heap.size + 2 ≤ S1

variable {S1 : Nat} {w : World} {v u : Value} {least : Int} {nv : Bool} {vo : Value} {out : List (Int × Int)} {W : World}

theorem AlAt.grown {W' : World} (h : AlAt S1 w v u least nv vo out W) (hg : W.grownBy W' none) : AlAt S1 w v u least nv vo out W' :=
  ⟨h.b8.kept hg (by simp), h.b9.kept hg (by simp), h.b10.kept hg (by simp), h.row.kept hg (by cases vo.ownBlock <;> simp), h.bl.kept hg (by simp), h.bc.kept hg (by simp), h.bel.grown hg h.bel.size (fun k e => by cases e), by have := hg.size; have := h.lt; omega, h.lw⟩
theorem AlAt.below {W' : World} (h : AlAt S1 w v u least nv vo out W) (hb : Below W.heap.size W W') : AlAt S1 w v u least nv vo out W' := h.grown (grown_of_below hb)
theorem boxed_other_row {W W' : World} {B t : Nat} {v : Value} {row : Option Nat} (h : Boxed W B t v) (hg : W.grownBy W' row) (hr : ∀ r, row = some r → ∃ o : Obj, W.heap[r]? = some o ∧ o.isCells = false) : Boxed W' B t v :=
  h.kept hg (fun e => by
    obtain ⟨o, ho, hc⟩ := hr B e.symm
    rw [show W.heap[B]? = _ from h] at ho
    cases ho
    cases hc)
theorem AlAt.own {W' : World} {row : Option Nat} (h : AlAt S1 w v u least nv vo out W) (hg : W.grownBy W' row) (hr : ∀ r, row = some r → w.heap.size ≤ r ∧ ∃ o : Obj, W.heap[r]? = some o ∧ o.isCells = false) : AlAt S1 w v u least nv vo out W' := by
  have hr' : ∀ r, row = some r → ∃ o : Obj, W.heap[r]? = some o ∧ o.isCells = false := fun r e => (hr r e).2
  refine ⟨boxed_other_row h.b8 hg hr', boxed_other_row h.b9 hg hr', boxed_other_row h.b10 hg hr', h.row.kept hg ?_, boxed_other_row h.bl hg hr', boxed_other_row h.bc hg hr', h.bel.grown hg h.bel.size (fun k e => (hr k e).1), by have := hg.size; have := h.lt; omega, h.lw⟩
  rcases h.row.2 with ⟨h1, -⟩ | ⟨g, cap, cu, h1, hb, hgg, -⟩
  · left
    rw [h1]; rfl
  · right
    rw [h1]
    intro e
    obtain ⟨o, ho, hc⟩ := hr' g e.symm
    rw [hgg] at ho
    cases ho
    cases hc
theorem AlAt.putLeast (h : AlAt S1 w v u least nv vo out W) (E : Int) : AlAt S1 w v u E nv vo out (W.setCell ⟨S1, 0, none⟩ (.int .i64 E)) := by
  have hlw := h.lw
  have hne := h.b8.not_row (by decide) h.row
  exact ⟨h.b8.set _, h.b9.other (by omega) _, h.b10.other (by omega) _, h.row.kept (grownBy_setCell' _ _ _) (.inr (fun e => hne e.symm)), h.bl.other (by omega) _, h.bc.other (by omega) _, h.bel.setCell (p := ⟨S1, 0, none⟩) (by show w.heap.size ≤ S1; omega) _, by have := h.lt; simp [World.setCell]; omega, h.lw⟩
theorem AlAt.putNever (h : AlAt S1 w v u least nv vo out W) (b : Bool) : AlAt S1 w v u least b vo out (W.setCell ⟨S1 + 1, 0, none⟩ (.bool b)) := by
  have hlw := h.lw
  have hne := h.b9.not_row (by decide) h.row
  exact ⟨h.b8.other (by omega) _, h.b9.set _, h.b10.other (by omega) _, h.row.kept (grownBy_setCell' _ _ _) (.inr (fun e => hne e.symm)), h.bl.other (by omega) _, h.bc.other (by omega) _, h.bel.setCell (p := ⟨S1 + 1, 0, none⟩) (by show w.heap.size ≤ S1 + 1; omega) _, by have := h.lt; simp [World.setCell]; omega, h.lw⟩
/-- A new row, ahead of the store into its variable. -/
theorem AlAt.append {W' : World} {v' : Value} {out' : List (Int × Int)} (h : AlAt S1 w v u least nv vo out W) (ho : W'.ownsRow w.heap.size 44 2 v' out'.length (spCells out')) (hg : W.grownBy W' vo.ownBlock) : AlAt S1 w v u least nv v' out' (W'.setCell ⟨S1 + 1 + 1, 0, none⟩ v') := by
  have hlw := h.lw
  have k8 := h.b8.kept hg (h.b8.not_row (by decide) h.row)
  have k9 := h.b9.kept hg (h.b9.not_row (by decide) h.row)
  have k10 := h.b10.kept hg (h.b10.not_row (by decide) h.row)
  have kl := h.bl.kept hg (h.bl.not_row (by decide) h.row)
  have kc := h.bc.kept hg (h.bc.not_row (by decide) h.row)
  have kb : Below w.heap.size w W' := h.bel.grown hg h.bel.size (fun k e => (h.row.lt k e).1)
  have hne := k10.not_row (by decide) ho
  exact ⟨k8.other (by omega) _, k9.other (by omega) _, k10.set _, ho.kept (grownBy_setCell' _ _ _) (.inr (fun e => hne e.symm)), kl.other (by omega) _, kc.other (by omega) _, kb.setCell (p := ⟨S1 + 1 + 1, 0, none⟩) (by show w.heap.size ≤ S1 + 1 + 1; omega) _, by have := h.lt; have := hg.size; simp [World.setCell]; omega, h.lw⟩
theorem AlAt.putNil (h : AlAt S1 w v u least nv vo out W) : AlAt S1 w v u least nv (.slice none 0 0) [] (W.setCell ⟨S1 + 1 + 1, 0, none⟩ (.slice none 0 0)) :=
  h.append (out' := []) (World.ownsRow_nil _ _ _ _) ⟨rfl, rfl, rfl, Nat.le_refl _, fun _ _ _ => rfl⟩
theorem AlAt.store {g cap : Nat} {out' : List (Int × Int)} (h : AlAt S1 w v u least nv (.slice (some ⟨g, 0, none⟩) out.length cap) out W) (j : Nat) (x : Value) (hx : (spCells out).set j x = spCells out') (hl : out'.length = out.length) :
    AlAt S1 w v u least nv (.slice (some ⟨g, 0, none⟩) out'.length cap) out' (W.setCell ⟨g, j, none⟩ x) := by
  obtain ⟨hst, hg⟩ := h.row.stored j x
  have k10 := h.b10.kept hg (h.b10.not_row (by decide) h.row)
  refine ⟨h.b8.kept hg (h.b8.not_row (by decide) h.row), h.b9.kept hg (h.b9.not_row (by decide) h.row), by rw [hl]; exact k10, by rw [hl, ← hx]; exact hst, h.bl.kept hg (h.bl.not_row (by decide) h.row), h.bc.kept hg (h.bc.not_row (by decide) h.row), h.bel.grown hg h.bel.size (fun k e => (h.row.lt k e).1), by have := h.lt; have := hg.size; omega, h.lw⟩

end Go.Proofs.Ytbiedadgejgnoaa
