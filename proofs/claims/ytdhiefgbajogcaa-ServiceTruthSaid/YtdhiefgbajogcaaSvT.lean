/-
  The first of the least services: the program's best.
-/
import Derived.Test.YtdhiefgbajogcaaSvS
import Derived.Laws.ResultCell
namespace Go.Proofs.Ytdhiefgbajogcaa
open Go.RowKit

theorem results_ct {P : Program} {fn : Func} {p u : Tmp} {ty : TypeId} (h : fn.results = #[.cell p ty, .tmp u]) (tmps : Array Value) (w : World) (g : Nat) (t : TypeId) (cs : Array Value) (fr : Nat × Nat) (d : TypeDesc)
    (hp : tmps.getD p undef = .pointer (some ⟨g, 0, none⟩)) (hg : w.heap[g]? = some (.cells cs t fr))
    (hu : P.underlying ty = some d) (hd : (match d with | .struct _ | .array _ _ => true | _ => false) = true) (hi : (P.info? ty).map (·.size) = some cs.size) :
    (results fn tmps).run P w = .ok (.tuple #[.agg cs, tmps.getD u undef]) w := by
  rw [results_cell_tmp h, hp]
  simp [asAddr, run_loadVar_row w g t ty cs fr d hg hu hd hi, Result.andThen]
theorem three_of {W : World} {B T : Nat} {a0 a1 a2 : Value} (h : W.heap[B]? = some (.cells #[a0, a1, a2] T)) :
    (W.cell? ⟨B, 0, none⟩ = some a0 ∧ W.cell? ⟨B, 1, none⟩ = some a1 ∧ W.cell? ⟨B, 2, none⟩ = some a2) ∧ ∀ i, W.frozen? ⟨B, i, none⟩ = false := by
  refine ⟨⟨?_, ?_, ?_⟩, fun i => ?_⟩
  · simp [World.cell?, h]
  · simp [World.cell?, h]
  · simp [World.cell?, h]
  · simp [World.frozen?, h]
def svLit (o : Option Sv) : Array Value := match o with
  | none => #[.int .i64 0, .int .i64 0, .int .i64 0]
  | some s => #[.int .i64 s.day, .int .i64 s.ext, .int .i64 s.att]
/-- Three cells of a block are written, one after the other. -/
structure Put3 (w : World) (B T : Nat) (x y z : Value) : Prop where
  c0 : ∃ a, w.cell? ⟨B, 0, none⟩ = some a
  f0 : w.frozen? ⟨B, 0, none⟩ = false
  c1 : ∃ a, (w.setCell ⟨B, 0, none⟩ x).cell? ⟨B, 1, none⟩ = some a
  f1 : (w.setCell ⟨B, 0, none⟩ x).frozen? ⟨B, 1, none⟩ = false
  c2 : ∃ a, ((w.setCell ⟨B, 0, none⟩ x).setCell ⟨B, 1, none⟩ y).cell? ⟨B, 2, none⟩ = some a
  f2 : ((w.setCell ⟨B, 0, none⟩ x).setCell ⟨B, 1, none⟩ y).frozen? ⟨B, 2, none⟩ = false
  h : (((w.setCell ⟨B, 0, none⟩ x).setCell ⟨B, 1, none⟩ y).setCell ⟨B, 2, none⟩ z).heap[B]? = some (.cells #[x, y, z] T)
  o : ∀ b, b ≠ B → (((w.setCell ⟨B, 0, none⟩ x).setCell ⟨B, 1, none⟩ y).setCell ⟨B, 2, none⟩ z).heap[b]? = w.heap[b]?
  s : (((w.setCell ⟨B, 0, none⟩ x).setCell ⟨B, 1, none⟩ y).setCell ⟨B, 2, none⟩ z).heap.size = w.heap.size
theorem put3 {w : World} {B T : Nat} {a0 a1 a2 : Value} (h : w.heap[B]? = some (.cells #[a0, a1, a2] T)) (x y z : Value) : Put3 w B T x y z := by
  have h1 : (w.setCell ⟨B, 0, none⟩ x).heap[B]? = some (.cells #[x, a1, a2] T) := heap_setCell_same w B 0 _ _ _ h
  have h2 : ((w.setCell ⟨B, 0, none⟩ x).setCell ⟨B, 1, none⟩ y).heap[B]? = some (.cells #[x, y, a2] T) := heap_setCell_same _ B 1 _ _ _ h1
  have h3 : (((w.setCell ⟨B, 0, none⟩ x).setCell ⟨B, 1, none⟩ y).setCell ⟨B, 2, none⟩ z).heap[B]? = some (.cells #[x, y, z] T) := heap_setCell_same _ B 2 _ _ _ h2
  exact ⟨⟨_, (three_of h).1.1⟩, (three_of h).2 0, ⟨_, (three_of h1).1.2.1⟩, (three_of h1).2 1, ⟨_, (three_of h2).1.2.2⟩, (three_of h2).2 2, h3,
    fun b hb => (heap_setCell_other _ ⟨B, 2, none⟩ b _ hb).trans ((heap_setCell_other _ ⟨B, 1, none⟩ b _ hb).trans (heap_setCell_other _ ⟨B, 0, none⟩ b _ hb)), by simp⟩

set_option maxHeartbeats 2000000 in
set_option maxRecDepth 100000 in
theorem best_any (L : List Sv) (v : Value) (w : World) (hx : IsSvs w v L) (hl : L.length ≤ 1000) :
    Calls Try.prog 43 #[v, .func (.func 44) #[] #[]] w fun e w' => e = .returned (.tuple #[.agg (svLit (bestL L)), .bool (bestL L).isSome]) ∧ Below w.heap.size w w' := by
  obtain ⟨B, hB⟩ : ∃ B, B = w.heap.size := ⟨_, rfl⟩
  by_cases hz : L.length = 0
  · have hzl : L = [] := List.eq_nil_of_length_eq_zero hz
    subst hzl
    obtain ⟨-, -, a, c, rfl, -, -⟩ := hx
    have HB : Hid (Below w.heap.size w ((w.alloc (.cells #[.int .i64 0, .int .i64 0, .int .i64 0] 48)).alloc (.cells #[.int .i64 0, .int .i64 0, .int .i64 0] 48))) := ((Below.refl _ _).alloc (Nat.le_refl _) _).alloc (by simp) _
    have hg : ((w.alloc (.cells #[.int .i64 0, .int .i64 0, .int .i64 0] 48)).alloc (.cells #[.int .i64 0, .int .i64 0, .int .i64 0] 48)).heap[w.heap.size]? = some (.cells #[.int .i64 0, .int .i64 0, .int .i64 0] 48) := (Below.heap_alloc _ _ _ (by simp)).trans (heap_alloc_new w _)
    have HG := Lib.hid hg
    clear hg hz
    go_enter Try.func43, Try.ntmps43
    go_wp2_with fail
    try simp only [Exit.inBlock, Exit.then]
    refine bodyPost_ret (results_ct rfl _ _ w.heap.size 48 _ _ _ rfl HG.out Try.underlying48 rfl (by kernel_rfl)) rfl ?_
    exact ⟨rfl, HB.out⟩
  have h0 : 0 < L.length := by omega
  obtain ⟨b, off, cap, rfl, hcap, hbl, x0, x1, x2⟩ := hx.at h0
  have HX := Lib.hid hx
  obtain ⟨s0, hs0⟩ : ∃ s0, L[0] = s0 := ⟨_, rfl⟩
  have HS0 := Lib.hid hs0
  have H1 : Hid (bestL (L.take (0 + 1)) = some s0) := by show _ = _; rw [List.take_succ_eq_append_getElem h0, hs0]; rfl
  rw [hs0] at x0 x1 x2
  have hlI : ((L.length : Int) == 0) = false := by simp; exact fun h => hz (by rw [h]; rfl)
  have hlN : (L.length == 0) = false := by simpa using hz
  clear hx hs0
  obtain ⟨sd, se, sa⟩ := s0
  simp only [Nat.zero_mul, Nat.add_zero] at x0 x1 x2
  have hW : Below w.heap.size w ((w.alloc (.cells #[.int .i64 0, .int .i64 0, .int .i64 0] 48)).alloc (.cells #[.int .i64 0, .int .i64 0, .int .i64 0] 48)) := ((Below.refl _ _).alloc (Nat.le_refl _) _).alloc (by simp) _
  have z0 : ((w.alloc (.cells #[.int .i64 0, .int .i64 0, .int .i64 0] 48)).alloc (.cells #[.int .i64 0, .int .i64 0, .int .i64 0] 48)).cell? ⟨b, off, none⟩ = some (.int .i64 sd) := (hW.cell (p := ⟨b, off, none⟩) hbl).trans x0
  have z1 : ((w.alloc (.cells #[.int .i64 0, .int .i64 0, .int .i64 0] 48)).alloc (.cells #[.int .i64 0, .int .i64 0, .int .i64 0] 48)).cell? ⟨b, off + 1, none⟩ = some (.int .i64 se) := (hW.cell (p := ⟨b, off + 1, none⟩) hbl).trans x1
  have z2 : ((w.alloc (.cells #[.int .i64 0, .int .i64 0, .int .i64 0] 48)).alloc (.cells #[.int .i64 0, .int .i64 0, .int .i64 0] 48)).cell? ⟨b, off + 2, none⟩ = some (.int .i64 sa) := (hW.cell (p := ⟨b, off + 2, none⟩) hbl).trans x2
  have hl1 : (1 : Int) ≤ (L.length : Int) := by omega
  have hc1 : (1 : Int) ≤ (cap : Int) := by omega
  have hsb : IntKind.i64.wrap ((L.length : Int) - 1) = (L.length : Int) - 1 := by rw [IntKind.wrap_i64]; omega
  have HBB := Lib.hid hB
  have HBV : Hid (w.heap.size ≤ B) := by show _ ≤ _; omega
  have HBW : Hid (w.heap.size ≤ B + 1) := by show _ ≤ _; omega
  have HI0 : Hid (((w.alloc (.cells #[.int .i64 0, .int .i64 0, .int .i64 0] 48)).alloc (.cells #[.int .i64 sd, .int .i64 se, .int .i64 sa] 48)).heap[B]? = some (.cells #[.int .i64 0, .int .i64 0, .int .i64 0] 48)) := by show _ = _; rw [hB]; exact (Below.heap_alloc _ _ _ (by simp)).trans (heap_alloc_new w _)
  have HI1 : Hid (((w.alloc (.cells #[.int .i64 0, .int .i64 0, .int .i64 0] 48)).alloc (.cells #[.int .i64 sd, .int .i64 se, .int .i64 sa] 48)).heap[B + 1]? = some (.cells #[.int .i64 sd, .int .i64 se, .int .i64 sa] 48)) := by
    show _ = _
    have h := heap_alloc_new (w.alloc (.cells #[.int .i64 0, .int .i64 0, .int .i64 0] 48)) (.cells #[.int .i64 sd, .int .i64 se, .int .i64 sa] 48)
    rw [World.size_alloc] at h
    rw [hB]
    exact h
  have HIS : Hid (B + 1 < ((w.alloc (.cells #[.int .i64 0, .int .i64 0, .int .i64 0] 48)).alloc (.cells #[.int .i64 sd, .int .i64 se, .int .i64 sa] 48)).heap.size) := by show _ < _; rw [hB]; simp
  have HIB : Hid (Below w.heap.size w ((w.alloc (.cells #[.int .i64 0, .int .i64 0, .int .i64 0] 48)).alloc (.cells #[.int .i64 sd, .int .i64 se, .int .i64 sa] 48))) := ((Below.refl _ _).alloc (Nat.le_refl _) _).alloc (by simp) _
  clear hB x0 x1 x2 hW
  by_cases hcn : cap = 1
  · have hL1 : L.length = 1 := by omega
    go_enter Try.func43, Try.ntmps43
    go_wp2_with fail
    rw [← HBB.out]
    go_loopw [19] (fun q wr => ∃ (j : Nat) (cd ce ca : Int), q = .int .i64 j ∧ j + 1 ≤ L.length ∧ Hid (bestL (L.take (j + 1)) = some ⟨cd, ce, ca⟩) ∧ Hid (wr.heap[B]? = some (.cells #[.int .i64 0, .int .i64 0, .int .i64 0] 48)) ∧ Hid (wr.heap[B + 1]? = some (.cells #[.int .i64 cd, .int .i64 ce, .int .i64 ca] 48)) ∧ Hid (B + 1 < wr.heap.size) ∧ Hid (Below w.heap.size w wr)) (fun q _ => L.length - (intOf q).toNat)
    case atStart => exact ⟨0, sd, se, sa, rfl, by omega, H1, HI0, HI1, HIS, HIB⟩
    case round =>
      obtain ⟨j, cd, ce, ca, rfl, hj, HBE, HC0, HC1, HSW, HBR⟩ := hrel
      have ej : IntKind.i64.wrap ((j : Int) + 1) = ((j + 1 : Nat) : Int) := by rw [IntKind.wrap_i64]; omega
      by_cases hjl : j + 1 < L.length
      · exfalso; omega
      · have hje : j + 1 = L.length := by omega
        have HBF : Hid (bestL L = some ⟨cd, ce, ca⟩) := by
          have h := HBE.out
          rw [hje, List.take_length] at h
          exact h
        have hjI : ¬ (j : Int) < ((L.length - 1 : Nat) : Int) := by omega
        have hp := put3 HC0.out (.int .i64 cd) (.int .i64 ce) (.int .i64 ca)
        obtain ⟨q0, hq0⟩ := hp.c0
        obtain ⟨q1, hq1⟩ := hp.c1
        obtain ⟨q2, hq2⟩ := hp.c2
        have hf0 := hp.f0
        have hf1 := hp.f1
        have hf2 := hp.f2
        obtain ⟨⟨t0, t1, t2⟩, -⟩ := three_of HC1.out
        have HPH := Lib.hid hp.h
        have HB4 : Hid (Below w.heap.size w (((wr.setCell ⟨B, 0, none⟩ (.int .i64 cd)).setCell ⟨B, 1, none⟩ (.int .i64 ce)).setCell ⟨B, 2, none⟩ (.int .i64 ca))) := ((HBR.out.setCell (p := ⟨B, 0, none⟩) HBV.out _).setCell (p := ⟨B, 1, none⟩) HBV.out _).setCell (p := ⟨B, 2, none⟩) HBV.out _
        clear hp
        go_wp2_with fail
        try simp only [Exit.inBlock, Exit.then]
        refine bodyPost_ret (results_ct rfl _ _ B 48 _ _ _ rfl HPH.out Try.underlying48 rfl (by kernel_rfl)) rfl ?_
        refine ⟨?_, HB4.out⟩
        rw [HBF.out]
        rfl
  · go_enter Try.func43, Try.ntmps43
    go_wp2_with fail
    rw [← HBB.out]
    go_loopw [19] (fun q wr => ∃ (j : Nat) (cd ce ca : Int), q = .int .i64 j ∧ j + 1 ≤ L.length ∧ Hid (bestL (L.take (j + 1)) = some ⟨cd, ce, ca⟩) ∧ Hid (wr.heap[B]? = some (.cells #[.int .i64 0, .int .i64 0, .int .i64 0] 48)) ∧ Hid (wr.heap[B + 1]? = some (.cells #[.int .i64 cd, .int .i64 ce, .int .i64 ca] 48)) ∧ Hid (B + 1 < wr.heap.size) ∧ Hid (Below w.heap.size w wr)) (fun q _ => L.length - (intOf q).toNat)
    case atStart => exact ⟨0, sd, se, sa, rfl, by omega, H1, HI0, HI1, HIS, HIB⟩
    case round =>
      obtain ⟨j, cd, ce, ca, rfl, hj, HBE, HC0, HC1, HSW, HBR⟩ := hrel
      have ej : IntKind.i64.wrap ((j : Int) + 1) = ((j + 1 : Nat) : Int) := by rw [IntKind.wrap_i64]; omega
      by_cases hjl : j + 1 < L.length
      · obtain ⟨b', o', c', e', -, -, y0, y1, y2⟩ := (HX.out.below HBR.out).at hjl
        simp only [Value.slice.injEq, true_and, Option.some.injEq, Addr.mk.injEq, and_true] at e'
        obtain ⟨⟨rfl, rfl⟩, rfl⟩ := e'
        have HST : Hid (bestL (L.take (j + 1 + 1)) = bstep (some ⟨cd, ce, ca⟩) L[j + 1]) := by
          show _ = _
          rw [List.take_succ_eq_append_getElem hjl, bestL_snoc, HBE.out]
        obtain ⟨⟨yd, ye, ya⟩, hy⟩ : ∃ y, L[j + 1] = y := ⟨_, rfl⟩
        rw [hy] at y0 y1 y2 HST
        simp only at y0 y1 y2
        have g0 : wr.cell? ⟨b, off + 3 + j * 3, none⟩ = some (.int .i64 yd) := by rw [← y0]; congr 2; omega
        have g1 : wr.cell? ⟨b, off + 3 + j * 3 + 1, none⟩ = some (.int .i64 ye) := by rw [← y1]; congr 2; omega
        have g2 : wr.cell? ⟨b, off + 3 + j * 3 + 2, none⟩ = some (.int .i64 ya) := by rw [← y2]; congr 2; omega
        have hbx := Below.alloc HBR.out HBR.out.size (.cells #[.int .i64 yd, .int .i64 ye, .int .i64 ya] 48)
        have hm1 : (wr.alloc (.cells #[.int .i64 yd, .int .i64 ye, .int .i64 ya] 48)).heap[B + 1]? = some (.cells #[.int .i64 cd, .int .i64 ce, .int .i64 ca] 48) := (Below.heap_alloc _ _ _ HSW.out).trans HC1.out
        have hm0 : (wr.alloc (.cells #[.int .i64 yd, .int .i64 ye, .int .i64 ya] 48)).heap[B]? = some (.cells #[.int .i64 0, .int .i64 0, .int .i64 0] 48) := (Below.heap_alloc _ _ _ (Nat.lt_of_succ_lt HSW.out)).trans HC0.out
        obtain ⟨⟨k0, k1, k2⟩, -⟩ := three_of hm1
        have HCM := Lib.hid (ofCmp_any ⟨yd, ye, ya⟩ ⟨cd, ce, ca⟩)
        have HM1 := Lib.hid hm1
        have HM0 := Lib.hid hm0
        have HBX := Lib.hid hbx
        have hjI : (j : Int) < ((L.length - 1 : Nat) : Int) := by omega
        clear y0 y1 y2 hy hbx hm1 hm0 HC1 HC0
        go_wp2_with fail
        refine (HCM.out _).mono ?_
        rintro e w3 ⟨rfl, hb3⟩
        have h31 : w3.heap[B + 1]? = some (.cells #[.int .i64 cd, .int .i64 ce, .int .i64 ca] 48) := (hb3.block _ (by have := HSW.out; simp; omega)).trans HM1.out
        have h30 : w3.heap[B]? = some (.cells #[.int .i64 0, .int .i64 0, .int .i64 0] 48) := (hb3.block _ (by have := HSW.out; simp; omega)).trans HM0.out
        have h3y : w3.heap[wr.heap.size]? = some (.cells #[.int .i64 yd, .int .i64 ye, .int .i64 ya] 48) := (hb3.block _ (by simp)).trans (heap_alloc_new wr _)
        have HB3 := Lib.hid (Below.to HBX.out hb3 HBX.out.size)
        have HS3 : Hid (B + 1 < w3.heap.size) := Nat.lt_of_lt_of_le (by have := HSW.out; simp; omega) hb3.size
        obtain ⟨⟨t0, t1, t2⟩, -⟩ := three_of h3y
        clear hb3 k0 k1 k2 g0 g1 g2
        by_cases hlt : yd < cd
        · have HCF : Hid (cmpF yd cd = -1) := if_pos hlt
          have HBE2 : Hid (bestL (L.take (j + 1 + 1)) = some ⟨yd, ye, ya⟩) := by show _ = _; rw [HST.out]; exact if_pos hlt
          have hp := put3 h31 (.int .i64 yd) (.int .i64 ye) (.int .i64 ya)
          obtain ⟨q0, hq0⟩ := hp.c0
          obtain ⟨q1, hq1⟩ := hp.c1
          obtain ⟨q2, hq2⟩ := hp.c2
          have hf0 := hp.f0
          have hf1 := hp.f1
          have hf2 := hp.f2
          have HC1 := Lib.hid hp.h
          have HC0 : Hid ((((w3.setCell ⟨B + 1, 0, none⟩ (.int .i64 yd)).setCell ⟨B + 1, 1, none⟩ (.int .i64 ye)).setCell ⟨B + 1, 2, none⟩ (.int .i64 ya)).heap[B]? = some (.cells #[.int .i64 0, .int .i64 0, .int .i64 0] 48)) := (hp.o B (by omega)).trans h30
          have HB4 : Hid (Below w.heap.size w (((w3.setCell ⟨B + 1, 0, none⟩ (.int .i64 yd)).setCell ⟨B + 1, 1, none⟩ (.int .i64 ye)).setCell ⟨B + 1, 2, none⟩ (.int .i64 ya))) := ((HB3.out.setCell (p := ⟨B + 1, 0, none⟩) HBW.out _).setCell (p := ⟨B + 1, 1, none⟩) HBW.out _).setCell (p := ⟨B + 1, 2, none⟩) HBW.out _
          have HS4 : Hid (B + 1 < (((w3.setCell ⟨B + 1, 0, none⟩ (.int .i64 yd)).setCell ⟨B + 1, 1, none⟩ (.int .i64 ye)).setCell ⟨B + 1, 2, none⟩ (.int .i64 ya)).heap.size) := by show _ < _; rw [hp.s]; exact HS3.out
          have hcf := HCF.out
          clear hp h31 h30 h3y hlt HST HCM HB3 HS3 HCF
          rw [hcf]
          go_wp2_with fail
          go_roundw
          case rel => exact ⟨j + 1, yd, ye, ya, by go_num, by omega, HBE2, HC0, HC1, HS4, HB4⟩
          case measure => simp [intOf]; omega
        · have HCF : Hid (¬ cmpF yd cd < 0) := by show ¬ _; unfold cmpF; rw [if_neg hlt]; split <;> omega
          have HBE2 : Hid (bestL (L.take (j + 1 + 1)) = some ⟨cd, ce, ca⟩) := by show _ = _; rw [HST.out]; exact if_neg hlt
          have HC1 := Lib.hid h31
          have HC0 := Lib.hid h30
          have hcf := HCF.out
          obtain ⟨m, hm⟩ : ∃ m, cmpF yd cd = m := ⟨_, rfl⟩
          rw [hm] at hcf ⊢
          clear h31 h30 h3y hlt HST HCM HCF hm
          go_wp2_with fail
          go_roundw
          case rel => exact ⟨j + 1, cd, ce, ca, by go_num, by omega, HBE2, HC0, HC1, HS3, HB3⟩
          case measure => simp [intOf]; omega
      · have hje : j + 1 = L.length := by omega
        have HBF : Hid (bestL L = some ⟨cd, ce, ca⟩) := by
          have h := HBE.out
          rw [hje, List.take_length] at h
          exact h
        have hjI : ¬ (j : Int) < ((L.length - 1 : Nat) : Int) := by omega
        have hp := put3 HC0.out (.int .i64 cd) (.int .i64 ce) (.int .i64 ca)
        obtain ⟨q0, hq0⟩ := hp.c0
        obtain ⟨q1, hq1⟩ := hp.c1
        obtain ⟨q2, hq2⟩ := hp.c2
        have hf0 := hp.f0
        have hf1 := hp.f1
        have hf2 := hp.f2
        obtain ⟨⟨t0, t1, t2⟩, -⟩ := three_of HC1.out
        have HPH := Lib.hid hp.h
        have HB4 : Hid (Below w.heap.size w (((wr.setCell ⟨B, 0, none⟩ (.int .i64 cd)).setCell ⟨B, 1, none⟩ (.int .i64 ce)).setCell ⟨B, 2, none⟩ (.int .i64 ca))) := ((HBR.out.setCell (p := ⟨B, 0, none⟩) HBV.out _).setCell (p := ⟨B, 1, none⟩) HBV.out _).setCell (p := ⟨B, 2, none⟩) HBV.out _
        clear hp
        go_wp2_with fail
        try simp only [Exit.inBlock, Exit.then]
        refine bodyPost_ret (results_ct rfl _ _ B 48 _ _ _ rfl HPH.out Try.underlying48 rfl (by kernel_rfl)) rfl ?_
        refine ⟨?_, HB4.out⟩
        rw [HBF.out]
        rfl

end Go.Proofs.Ytdhiefgbajogcaa
