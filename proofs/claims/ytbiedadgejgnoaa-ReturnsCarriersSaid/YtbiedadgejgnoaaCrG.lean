/-
  Run: its walk, in general. (Printed by wip/tools/gen_cr9.py.)
-/
import Derived.Test.YtbiedadgejgnoaaCr8
import Derived.Test.YtbiedadgejgnoaaCrE
namespace Go.Proofs.Ytbiedadgejgnoaa
open Go.RowKit

/-- What the loop of Run holds of memory. -/
structure RunAt (w W : World) (vd vr : Value) (D : List Dl) (R : List Rp) : Prop where
  del : W.ownsRow w.heap.size 82 3 vd D.length (enC dlE D)
  rep : W.ownsRow w.heap.size 62 6 vr R.length (enC rpE R)
  bel : Below w.heap.size w W
theorem RunAt.below {w W W' : World} {vd vr : Value} {D : List Dl} {R : List Rp} (h : RunAt w W vd vr D R) (hb : Below W.heap.size W W') : RunAt w W' vd vr D R :=
  ⟨owns_below h.del hb, owns_below h.rep hb, Below.to h.bel hb h.bel.size⟩
/-- Another block of the call's own is written. -/
theorem RunAt.kept {w W W' : World} {vd vr : Value} {D : List Dl} {R : List Rp} {g : Nat} (h : RunAt w W vd vr D R) (hg : W.grownBy W' (some g)) (hd : vd.ownBlock ≠ some g) (hr : vr.ownBlock ≠ some g) (hw : w.heap.size ≤ g) : RunAt w W' vd vr D R := by
  refine ⟨h.del.kept hg (.inr hd), h.rep.kept hg (.inr hr), ?_⟩
  have hb := h.bel
  exact ⟨hg.os.trans hb.os, hg.tape.trans hb.tape, hg.output.trans hb.output, Nat.le_trans hb.size hg.size, fun k hk => (hg.block k (Nat.lt_of_lt_of_le hk hb.size) (fun e => by cases e; omega)).trans (hb.block k hk)⟩
/-- A row and a block of another type: two blocks. -/
theorem owns_ne {w : World} {B E s n G T : Nat} {v : Value} {xs : List Value} {cs : Array Value} (h : w.ownsRow B E s v n xs) (hG : w.heap[G]? = some (.cells cs T)) (hne : E ≠ T) : v.ownBlock ≠ some G := by
  rcases h.2 with ⟨e, -⟩ | ⟨g, cap, cur, rfl, -, hg, -⟩
  · rw [e]; intro h; cases h
  · intro e
    have e' : g = G := by simpa [Value.ownBlock] using e
    subst e'
    rw [hG] at hg
    cases hg
    exact hne rfl
theorem World.lt_of_heap {w : World} {g : Nat} {o : Obj} (h : w.heap[g]? = some o) : g < w.heap.size := (Array.getElem?_eq_some_iff.1 h).1
theorem dlLit (W : World) (x : Dl) : Rd (W.alloc (.cells (litDl x) 82)) (.slice (some ⟨W.heap.size, 0, none⟩) 1 1) 3 1 (dlE x) := Rd.lit W (litDl x) 82 3 1 rfl (by unfold maxLen; omega)
theorem rpLit (W : World) (x : Rp) : Rd (W.alloc (.cells (litRp x) 62)) (.slice (some ⟨W.heap.size, 0, none⟩) 1 1) 6 1 (rpE x) := Rd.lit W (litRp x) 62 6 1 rfl (by unfold maxLen; omega)
theorem RunAt.del1 {w W W' : World} {vd vr v' : Value} {D : List Dl} {R : List Rp} {x : Dl} (h : RunAt w W vd vr D R) (hv : W'.ownsRow w.heap.size 82 3 v' (D.length + 1) (enC dlE D ++ dlE x)) (hg : W.grownBy W' vd.ownBlock) : RunAt w W' v' vr (D ++ [x]) R := by
  refine ⟨?_, h.rep.kept hg (owns_apart h.rep h.del (by decide)), below_append h.bel h.del hg h.bel.size⟩
  rw [enC_append, enC_single, List.length_append, List.length_singleton]
  exact hv
theorem RunAt.rep1 {w W W' : World} {vd vr v' : Value} {D : List Dl} {R : List Rp} {x : Rp} (h : RunAt w W vd vr D R) (hv : W'.ownsRow w.heap.size 62 6 v' (R.length + 1) (enC rpE R ++ rpE x)) (hg : W.grownBy W' vr.ownBlock) : RunAt w W' vd v' D (R ++ [x]) := by
  refine ⟨h.del.kept hg (owns_apart h.del h.rep (by decide)), ?_, below_append h.bel h.rep hg h.bel.size⟩
  rw [enC_append, enC_single, List.length_append, List.length_singleton]
  exact hv
theorem runD1_le (p x : Ret) : (runD1 p x).length ≤ 1 := by
  unfold runD1
  split
  · simp
  · split <;> simp
theorem runR1_le (p x : Ret) : (runR1 p x).length ≤ 2 := by
  unfold runR1
  split
  · simp
  · unfold repQ copiesN
    rw [List.length_map, List.length_range]
    split
    · omega
    · split <;> omega
theorem runD_le (ways : List Ret) : ∀ papers : List Ret, (runD ways papers).length ≤ papers.length
  | [] => Nat.le_refl _
  | p :: l => by
    have := runD_le ways l
    have h := runD1_le p (wayF ways p.car)
    have e : runD ways (p :: l) = runD1 p (wayF ways p.car) ++ runD ways l := rfl
    rw [e, List.length_append, List.length_cons]
    omega
theorem runR_le (ways : List Ret) : ∀ papers : List Ret, (runR ways papers).length ≤ 2 * papers.length
  | [] => Nat.le_refl _
  | p :: l => by
    have := runR_le ways l
    have h := runR1_le p (wayF ways p.car)
    have e : runR ways (p :: l) = runR1 p (wayF ways p.car) ++ runR ways l := rfl
    rw [e, List.length_append, List.length_cons]
    omega

set_option maxHeartbeats 8000000 in
set_option maxRecDepth 100000 in
theorem run_anyG (papers ways : List Ret) (v y : Value) (u : Int) (w : World) (hx : IsRts w v papers) (hy : IsRts w y ways) (hp : ∀ p ∈ papers, 0 ≤ p.un ∧ p.un ≤ 3652058) (hw : ∀ x ∈ ways, 0 ≤ x.fr ∧ x.fr ≤ 1000 ∧ 0 ≤ x.kind ∧ x.kind ≤ 5) (hl : papers.length ≤ 9) :
    Calls Try.prog 27 #[v, y, .int .i64 u] w fun e w' => ∃ v1 v2, e = .returned (.tuple #[v1, v2]) ∧ ∃ D R, Hid (D.Perm ((runD ways papers).filter (fun x => !decide (u < x.day)))) ∧ Hid (R.Perm ((runR ways papers).filter (fun x => !decide (u < x.day)))) ∧ Hid (RunAt w w' v1 v2 D R) := by
  have HX := Lib.hid hx
  have HY := Lib.hid hy
  have HP := Lib.hid hp
  have HW := Lib.hid hw
  obtain ⟨a1, c1, rfl, -, -⟩ := hx.open
  obtain ⟨a2, c2, rfl, hym, -⟩ := hy.open
  unfold maxLen at hym
  clear hx hy hp hw
  go_enter Try.func27, Try.ntmps27
  go_wp2_with fail
  go_loopw [8, 9, 20] (fun q r i wr => ∃ (k : Nat) (vd vr : Value) (D : List Dl) (R : List Rp), vd = q ∧ vr = r ∧ i = .int .i64 k ∧ k ≤ papers.length ∧ Hid (D = runD ways (papers.take k)) ∧ Hid (R = runR ways (papers.take k)) ∧ Hid (RunAt w wr vd vr D R)) (fun _ _ i _ => papers.length - (intOf i).toNat)
  case atStart => exact ⟨0, _, _, [], [], rfl, rfl, rfl, Nat.zero_le _, rfl, rfl, Lib.hid ⟨World.ownsRow_nil _ _ _ _, World.ownsRow_nil _ _ _ _, Below.refl _ _⟩⟩
  case round =>
    obtain ⟨k, vd, vr, D, R, rfl, rfl, rfl, hk, HDK, HRK, HAT⟩ := hrel
    obtain ⟨wo, rfl⟩ : ∃ wo : World, wo = wr := ⟨_, rfl⟩
    have hDl : D.length ≤ 9 := by have := runD_le ways (papers.take k); rw [← HDK.out, List.length_take] at this; omega
    have hRl : R.length ≤ 18 := by have := runR_le ways (papers.take k); rw [← HRK.out, List.length_take] at this; omega
    by_cases hkl : k < papers.length
    · have ek : IntKind.i64.wrap ((k : Int) + 1) = ((k + 1 : Nat) : Int) := by rw [IntKind.wrap_i64]; omega
      have hkI : (k : Int) < (papers.length : Int) := by omega
      obtain ⟨b5, o5, q5, e5, hb5, d0, d1, d2, d3⟩ := (HX.out.below HAT.out.bel).at hkl
      simp only [Value.slice.injEq, true_and] at e5
      obtain ⟨rfl, -⟩ := e5
      have HDN := Lib.hid (runD_take ways papers hkl)
      have HRN := Lib.hid (runR_take ways papers hkl)
      rw [← HDK.out] at HDN
      rw [← HRK.out] at HRN
      have hpk := HP.out papers[k] (List.getElem_mem hkl)
      clear HDK HRK
      generalize papers[k] = p at *
      obtain ⟨p0, p1, p2, p3⟩ := p
      simp only at d0 d1 d2 d3 hpk HDN HRN
      obtain ⟨hp0, hp1⟩ := hpk
      obtain ⟨PB, hPB⟩ : ∃ PB, PB = wo.heap.size := ⟨_, rfl⟩
      obtain ⟨W1, hW1⟩ : ∃ W1, W1 = (wo.alloc (.cells #[.int .i64 p0, .int .i64 p1, .int .i64 p2, .int .i64 p3] 53)).alloc (.cells #[.int .i64 0, .int .i64 0, .int .i64 1, .int .i64 0] 55) := ⟨_, rfl⟩
      have hb1 : Below wo.heap.size wo W1 := by rw [hW1]; exact ((Below.refl _ _).alloc (Nat.le_refl _) _).alloc (by simp) _
      have hP1 : W1.heap[PB]? = some (.cells #[.int .i64 p0, .int .i64 p1, .int .i64 p2, .int .i64 p3] 53) := by rw [hW1, hPB]; exact (Below.heap_alloc _ _ _ (by simp)).trans (heap_alloc_new wo _)
      have hQ1 : W1.heap[PB + 1]? = some (.cells #[.int .i64 0, .int .i64 0, .int .i64 1, .int .i64 0] 55) := by
        have h := heap_alloc_new (wo.alloc (.cells #[.int .i64 p0, .int .i64 p1, .int .i64 p2, .int .i64 p3] 53)) (.cells #[.int .i64 0, .int .i64 0, .int .i64 1, .int .i64 0] 55)
        rw [World.size_alloc] at h
        rw [hW1, hPB]
        exact h
      have hz1 : PB + 1 < W1.heap.size := by rw [hW1, hPB]; simp
      have HA1 := Lib.hid (HAT.out.below hb1)
      have HOB : Hid (w.heap.size ≤ PB + 1) := by have := HAT.out.bel.size; show _ ≤ _; omega
      have cP := (four_c hP1).1.1
      have HFI := Lib.hid (findWay ways (fun x : Ret => x.car == p0) 46 #[.pointer (some ⟨PB, 0, none⟩)] (.slice a2 ways.length c2) W1 (HY.out.below HA1.out.bel) canRunWay
        (fun i hi W hW => runWay ways[i] p0 PB W ((hW.cell (p := ⟨PB, 0, none⟩) (by show PB < _; omega)).trans cP)))
      have HP1 : Hid (∀ X, Below W1.heap.size W1 X → X.heap[PB]? = some (.cells #[.int .i64 p0, .int .i64 p1, .int .i64 p2, .int .i64 p3] 53)) := fun X hX => (hX.block _ (by omega)).trans hP1
      have HQ1 : Hid (∀ X, Below W1.heap.size W1 X → X.heap[PB + 1]? = some (.cells #[.int .i64 0, .int .i64 0, .int .i64 1, .int .i64 0] 55)) := fun X hX => (hX.block _ hz1).trans hQ1
      have HZ1 : Hid (PB + 1 < W1.heap.size) := hz1
      have HW1 := Lib.hid hW1
      have HPB := Lib.hid hPB
      obtain ⟨a5, c5, rfl, -, -⟩ := owns_slice HAT.out.del
      obtain ⟨a6, c6, rfl, -, -⟩ := owns_slice HAT.out.rep
      clear hb1 hP1 hQ1 hz1 cP hW1 hPB
      go_wp2_with fail
      rw [← HW1.out, ← HPB.out]
      refine HFI.out.mono ?_
      rintro e w2 ⟨rfl, hb2⟩
      have hP2 := HP1.out w2 hb2
      have hQ2 := HQ1.out w2 hb2
      have HA2 := Lib.hid (HA1.out.below hb2)
      have HZ2 : Hid (PB + 1 < w2.heap.size) := Nat.lt_of_lt_of_le HZ1.out hb2.size
      clear hb2 HFI HP1 HQ1 HA1 HZ1 d0 d1 d2 d3
      rcases wayF_of (ways := ways) (a := p0) with ⟨hi, hwf⟩ | ⟨j, hj, hi, hwf⟩
      · rw [hi]
        rw [hwf] at HDN HRN
        clear hi hwf
        have HP3 := Lib.hid hP2
        have HQ3 := Lib.hid hQ2
        have HA3 := HA2
        have HZ3 := HZ2
        obtain ⟨⟨e0, e1, e2, e3⟩, -⟩ := four_c hP2
        obtain ⟨⟨g0, g1, g2, g3⟩, -⟩ := four_c hQ2
        clear hP2 hQ2
        obtain ⟨DAY, hDAY⟩ : ∃ d, d = p3 + 1 := ⟨_, rfl⟩
        have hwd : IntKind.i64.wrap (p3 + 1) = DAY := by rw [IntKind.wrap_i64]; omega
        have hday0 : 0 ≤ DAY := by omega
        by_cases hlost : 3652058 < DAY
        · have HLB : Hid (lostB (p3 + 1) 0 = true) := by show _ = _; unfold lostB; first | (simp; omega) | simp
          have HLD : Hid (D = runD ways (papers.take (k + 1))) := by
            show _ = _
            rw [HDN.out]
            unfold runD1
            rw [if_pos HLB.out, List.append_nil]
          have HLR : Hid (R = runR ways (papers.take (k + 1))) := by
            show _ = _
            rw [HRN.out]
            unfold runR1
            rw [if_pos HLB.out, List.append_nil]
          clear HDN HRN HLB
          clear hDAY
          go_wp2_with fail
          go_roundw
          case rel => exact ⟨k + 1, _, _, D, R, rfl, rfl, by go_num, by omega, HLD, HLR, HA3⟩
          case measure => simp [intOf]; omega
        · have HLB : Hid (¬ lostB (p3 + 1) 0 = true) := by show ¬ _; unfold lostB; simp; omega
          have HRX : Hid (R ++ repQ p0 p2 DAY 1 = runR ways (papers.take (k + 1))) := by
            show _ = _
            rw [HRN.out, hDAY]
            unfold runR1
            rw [if_neg HLB.out]
            rfl
          obtain ⟨DX, hDX⟩ : ∃ DX, D ++ [⟨p0, p1, DAY⟩] = DX := ⟨_, rfl⟩
          have HDX : Hid (DX = runD ways (papers.take (k + 1))) := by
            show _ = _
            rw [HDN.out, ← hDX, hDAY]
            unfold runD1
            rw [if_neg HLB.out]
            rfl
          have HDE := Lib.hid hDX
          have HDAY := Lib.hid hDAY
          have HLX : Hid (∀ (W : World) (n : Nat), W.heap.size = n → Rd (W.alloc (.cells #[.int .i64 p0, .int .i64 p1, .int .i64 DAY] 82)) (.slice (some ⟨n, 0, none⟩) 1 1) 3 1 (dlE ⟨p0, p1, DAY⟩)) := fun W n hn => by subst hn; exact dlLit W ⟨p0, p1, DAY⟩
          clear HDN HRN HLB hDX hDAY
          go_wp2_with (at_builtin; go_must (refine wpList_append_rd rfl _ _ 57 rfl w.heap.size 82 _ 3 24 Try.underlying57 infoDl rfl (by decide) (.slice a5 D.length c5) D.length (enC dlE D) rfl (owns_below HA3.out.del ?b0) _ 1 (dlE ⟨p0, p1, DAY⟩) rfl (HLX.out _ w2.heap.size ?b4) (dlE_one _) ?b1 ?b2 ?b3 ?_))
          case b4 => first | rfl | simp
          case b0 => exact (Below.refl _ _).alloc (Nat.le_refl _) _
          case b1 => unfold maxLen; omega
          case b2 => omega
          case b3 => exact Nat.le_trans HA3.out.bel.size (by simp)
          intro v4 w4 hv4 hg4
          have hA1 := HA3.out.below ((Below.refl _ _).alloc (Nat.le_refl _) (.cells #[.int .i64 p0, .int .i64 p1, .int .i64 DAY] 82))
          have hPa := (Below.heap_alloc _ (.cells #[.int .i64 p0, .int .i64 p1, .int .i64 DAY] 82) _ (Nat.lt_of_succ_lt HZ3.out)).trans HP3.out
          have hQa := (Below.heap_alloc _ (.cells #[.int .i64 p0, .int .i64 p1, .int .i64 DAY] 82) _ HZ3.out).trans HQ3.out
          have hP4 := (hg4.block PB (World.lt_of_heap hPa) (fun e => owns_ne hA1.del hPa (by decide) e.symm)).trans hPa
          have hQ4 := (hg4.block (PB + 1) (World.lt_of_heap hQa) (fun e => owns_ne hA1.del hQa (by decide) e.symm)).trans hQa
          have hA4 := hA1.del1 hv4 hg4
          rw [HDE.out] at hA4
          have HA4 := Lib.hid hA4
          have HP4 := Lib.hid hP4
          obtain ⟨⟨r0, r1, r2, r3⟩, -⟩ := four_c hP4
          obtain ⟨⟨t0, t1, t2, t3⟩, -⟩ := four_c hQ4
          obtain ⟨a8, c8, hv8, -, -⟩ := owns_slice hA4.del
          subst hv8
          clear hv4 hg4 hA1 hPa hQa hP4 hQ4 hA4 HLX HA3 HP3 HQ3 HZ3 e0 e1 e2 e3 g0 g1 g2 g3
          go_wp2_with fail
          go_loopw [9, 71] (fun r i wi => ∃ (q : Nat) (vi : Value) (RI : List Rp), vi = r ∧ i = .int .i64 q ∧ q ≤ 1 ∧ RI.length ≤ 18 + q ∧ Hid (RI = R ++ repQ p0 p2 DAY q) ∧ Hid (RunAt w wi (.slice a8 DX.length c8) vi DX RI) ∧ Hid (wi.heap[PB]? = some (.cells #[.int .i64 p0, .int .i64 p1, .int .i64 p2, .int .i64 p3] 53))) (fun _ i _ => 1 - (intOf i).toNat)
          case atStart => exact ⟨0, _, R, rfl, rfl, by omega, by omega, by show _ = _; unfold repQ; simp, HA4, HP4⟩
          case round =>
            obtain ⟨q, vi, RI, rfl, rfl, hq, hRI, HRI, HAI, HPI⟩ := hrel
            obtain ⟨a9, c9, hv9, -, -⟩ := owns_slice HAI.out.rep
            subst hv9
            by_cases hqn : q < 1
            · have hqI : (q : Int) < 1 := by omega
              have eq1 : IntKind.i64.wrap ((q : Int) + 1) = ((q + 1 : Nat) : Int) := by rw [IntKind.wrap_i64]; omega
              obtain ⟨Y, hY⟩ : ∃ Y, Y = DAY + 1 + (q : Int) := ⟨_, rfl⟩
              have eq2 : IntKind.i64.wrap (DAY + 1) = DAY + 1 := by rw [IntKind.wrap_i64]; omega
              have eq3 : IntKind.i64.wrap (DAY + 1 + (q : Int)) = Y := by rw [IntKind.wrap_i64]; omega
              obtain ⟨⟨m0, m1, m2, m3⟩, -⟩ := four_c HPI.out
              have HLX : Hid (∀ W : World, Rd (W.alloc (.cells #[.int .i64 p0, .int .i64 Y, .int .i64 p2, .int .i64 1, .int .i64 DAY, .int .i64 DAY] 62)) (.slice (some ⟨W.heap.size, 0, none⟩) 1 1) 6 1 (rpE ⟨p0, Y, ⟨p2, 1, DAY, DAY⟩⟩)) := fun W => rpLit W ⟨p0, Y, ⟨p2, 1, DAY, DAY⟩⟩
              have HRJ : Hid (RI ++ [⟨p0, Y, ⟨p2, 1, DAY, DAY⟩⟩] = R ++ repQ p0 p2 DAY (q + 1)) := by show _ = _; rw [HRI.out, repQ_S, ← List.append_assoc, ← hY]
              clear hY
              go_wp2_with (at_builtin; go_must (refine wpList_append_rd rfl _ _ 58 rfl w.heap.size 62 _ 6 48 Try.underlying58 infoRp rfl (by decide) (.slice a9 RI.length c9) RI.length (enC rpE RI) rfl (owns_below HAI.out.rep ?b0) _ 1 (rpE ⟨p0, Y, ⟨p2, 1, DAY, DAY⟩⟩) rfl (HLX.out _) (rpE_one _) ?b1 ?b2 ?b3 ?_))
              case b0 => exact (Below.refl _ _).alloc (Nat.le_refl _) _
              case b1 => unfold maxLen; omega
              case b2 => omega
              case b3 => exact Nat.le_trans HAI.out.bel.size (by simp)
              intro v5 w5 hv5 hg5
              have hA1 := HAI.out.below ((Below.refl _ _).alloc (Nat.le_refl _) (.cells #[.int .i64 p0, .int .i64 Y, .int .i64 p2, .int .i64 1, .int .i64 DAY, .int .i64 DAY] 62))
              have hPa := (Below.heap_alloc _ (.cells #[.int .i64 p0, .int .i64 Y, .int .i64 p2, .int .i64 1, .int .i64 DAY, .int .i64 DAY] 62) _ (World.lt_of_heap HPI.out)).trans HPI.out
              have hP5 := (hg5.block PB (World.lt_of_heap hPa) (fun e => owns_ne hA1.rep hPa (by decide) e.symm)).trans hPa
              have hA5 := hA1.rep1 hv5 hg5
              have HP5 := Lib.hid hP5
              have HA5 := Lib.hid hA5
              obtain ⟨a10, c10, hv10, -, -⟩ := owns_slice hv5
              subst hv10
              have hRJ : (RI ++ [(⟨p0, Y, ⟨p2, 1, DAY, DAY⟩⟩ : Rp)]).length ≤ 18 + (q + 1) := by rw [List.length_append, List.length_singleton]; omega
              clear hv5 hg5 hA1 hPa hP5 hA5 HLX m0 m1 m2 m3
              go_wp2_with fail
              go_roundw
              case rel => exact ⟨q + 1, _, _, rfl, by go_num, by omega, hRJ, HRJ, HA5, HP5⟩
              case measure => simp [intOf]; omega
            · have hqe : q = 1 := by omega
              have hqI : ¬ (q : Int) < 1 := by omega
              have HRF : Hid (RI = runR ways (papers.take (k + 1))) := by show _ = _; rw [HRI.out, hqe]; exact HRX.out
              clear hqe
              go_wp2_with fail
              go_roundw
              case rel => exact ⟨k + 1, _, _, DX, RI, rfl, rfl, by go_num, by omega, HDX, HRF, HAI⟩
              case measure => simp [intOf]; omega
      · rw [hi]
        rw [hwf] at HDN HRN
        have hxw := HW.out ways[j] (List.getElem_mem hj)
        obtain ⟨b7, o7, q7, e7, -, y0, y1, y2, y3⟩ := (HY.out.below HA2.out.bel).at hj
        simp only [Value.slice.injEq, true_and] at e7
        obtain ⟨rfl, -⟩ := e7
        have hjI : (j : Int) < (ways.length : Int) := by omega
        have hjN : ¬ (j : Int) < 0 := by omega
        have hjP : (0 : Int) ≤ (j : Int) := by omega
        clear hi hwf
        generalize ways[j] = x at *
        obtain ⟨x0, x1, x2, x3⟩ := x
        simp only at y0 y1 y2 y3 hxw HDN HRN
        obtain ⟨hf0, hf1, hk0, hk1⟩ := hxw
        obtain ⟨W3, hp4⟩ := put4 hQ2 (.int .i64 x0) (.int .i64 x1) (.int .i64 x2) (.int .i64 x3)
        have HA3 := Lib.hid (HA2.out.kept hp4.g (owns_ne HA2.out.del hQ2 (by decide)) (owns_ne HA2.out.rep hQ2 (by decide)) HOB.out)
        have hP3 : W3.heap[PB]? = some (.cells #[.int .i64 p0, .int .i64 p1, .int .i64 p2, .int .i64 p3] 53) := (hp4.g.block PB (by have := HZ2.out; omega) (by simp)).trans hP2
        have HZ3 : Hid (PB + 1 < W3.heap.size) := Nat.lt_of_lt_of_le HZ2.out hp4.g.size
        obtain ⟨⟨e0, e1, e2, e3⟩, -⟩ := four_c hP3
        obtain ⟨⟨g0, g1, g2, g3⟩, -⟩ := four_c hp4.h
        obtain ⟨q0, hq0⟩ := hp4.c0
        obtain ⟨q1, hq1⟩ := hp4.c1
        obtain ⟨q2, hq2⟩ := hp4.c2
        obtain ⟨q3, hq3⟩ := hp4.c3
        have hf0' := hp4.f0
        have hf1' := hp4.f1
        have hf2' := hp4.f2
        have hf3' := hp4.f3
        have hQ3 := hp4.h
        obtain rfl := hp4.e
        have HP3 := Lib.hid hP3
        have HQ3 := Lib.hid hQ3
        clear hp4 hP2 hQ2 hP3 hQ3 hj
        obtain ⟨DAY, hDAY⟩ : ∃ d, d = p3 + x2 := ⟨_, rfl⟩
        have hwd : IntKind.i64.wrap (p3 + x2) = DAY := by rw [IntKind.wrap_i64]; omega
        have hday0 : 0 ≤ DAY := by omega
        by_cases hlost : 3652058 < DAY
        · have HLB : Hid (lostB (p3 + x2) x1 = true) := by show _ = _; unfold lostB; first | (simp; omega) | simp
          have HLD : Hid (D = runD ways (papers.take (k + 1))) := by
            show _ = _
            rw [HDN.out]
            unfold runD1
            rw [if_pos HLB.out, List.append_nil]
          have HLR : Hid (R = runR ways (papers.take (k + 1))) := by
            show _ = _
            rw [HRN.out]
            unfold runR1
            rw [if_pos HLB.out, List.append_nil]
          clear HDN HRN HLB
          clear hDAY
          go_wp2_with fail
          go_roundw
          case rel => exact ⟨k + 1, _, _, D, R, rfl, rfl, by go_num, by omega, HLD, HLR, HA3⟩
          case measure => simp [intOf]; omega
        · rcases (by omega : x1 = 0 ∨ x1 = 1 ∨ x1 = 2 ∨ x1 = 3 ∨ x1 = 4 ∨ x1 = 5) with rfl | rfl | rfl | rfl | rfl | rfl
          · have HLB : Hid (¬ lostB (p3 + x2) 0 = true) := by show ¬ _; unfold lostB; simp; omega
            have HRX : Hid (R ++ repQ p0 p2 DAY 1 = runR ways (papers.take (k + 1))) := by
              show _ = _
              rw [HRN.out, hDAY]
              unfold runR1
              rw [if_neg HLB.out]
              rfl
            obtain ⟨DX, hDX⟩ : ∃ DX, D ++ [⟨p0, p1, DAY⟩] = DX := ⟨_, rfl⟩
            have HDX : Hid (DX = runD ways (papers.take (k + 1))) := by
              show _ = _
              rw [HDN.out, ← hDX, hDAY]
              unfold runD1
              rw [if_neg HLB.out]
              rfl
            have HDE := Lib.hid hDX
            have HDAY := Lib.hid hDAY
            have HLX : Hid (∀ (W : World) (n : Nat), W.heap.size = n → Rd (W.alloc (.cells #[.int .i64 p0, .int .i64 p1, .int .i64 DAY] 82)) (.slice (some ⟨n, 0, none⟩) 1 1) 3 1 (dlE ⟨p0, p1, DAY⟩)) := fun W n hn => by subst hn; exact dlLit W ⟨p0, p1, DAY⟩
            clear HDN HRN HLB hDX hDAY
            go_wp2_with (at_builtin; go_must (refine wpList_append_rd rfl _ _ 57 rfl w.heap.size 82 _ 3 24 Try.underlying57 infoDl rfl (by decide) (.slice a5 D.length c5) D.length (enC dlE D) rfl (owns_below HA3.out.del ?b0) _ 1 (dlE ⟨p0, p1, DAY⟩) rfl (HLX.out _ w2.heap.size ?b4) (dlE_one _) ?b1 ?b2 ?b3 ?_))
            case b4 => first | rfl | simp
            case b0 => exact (Below.refl _ _).alloc (Nat.le_refl _) _
            case b1 => unfold maxLen; omega
            case b2 => omega
            case b3 => exact Nat.le_trans HA3.out.bel.size (by simp)
            intro v4 w4 hv4 hg4
            have hA1 := HA3.out.below ((Below.refl _ _).alloc (Nat.le_refl _) (.cells #[.int .i64 p0, .int .i64 p1, .int .i64 DAY] 82))
            have hPa := (Below.heap_alloc _ (.cells #[.int .i64 p0, .int .i64 p1, .int .i64 DAY] 82) _ (Nat.lt_of_succ_lt HZ3.out)).trans HP3.out
            have hQa := (Below.heap_alloc _ (.cells #[.int .i64 p0, .int .i64 p1, .int .i64 DAY] 82) _ HZ3.out).trans HQ3.out
            have hP4 := (hg4.block PB (World.lt_of_heap hPa) (fun e => owns_ne hA1.del hPa (by decide) e.symm)).trans hPa
            have hQ4 := (hg4.block (PB + 1) (World.lt_of_heap hQa) (fun e => owns_ne hA1.del hQa (by decide) e.symm)).trans hQa
            have hA4 := hA1.del1 hv4 hg4
            rw [HDE.out] at hA4
            have HA4 := Lib.hid hA4
            have HP4 := Lib.hid hP4
            obtain ⟨⟨r0, r1, r2, r3⟩, -⟩ := four_c hP4
            obtain ⟨⟨t0, t1, t2, t3⟩, -⟩ := four_c hQ4
            obtain ⟨a8, c8, hv8, -, -⟩ := owns_slice hA4.del
            subst hv8
            clear hv4 hg4 hA1 hPa hQa hP4 hQ4 hA4 HLX HA3 HP3 HQ3 HZ3 e0 e1 e2 e3 g0 g1 g2 g3
            go_wp2_with fail
            go_loopw [9, 71] (fun r i wi => ∃ (q : Nat) (vi : Value) (RI : List Rp), vi = r ∧ i = .int .i64 q ∧ q ≤ 1 ∧ RI.length ≤ 18 + q ∧ Hid (RI = R ++ repQ p0 p2 DAY q) ∧ Hid (RunAt w wi (.slice a8 DX.length c8) vi DX RI) ∧ Hid (wi.heap[PB]? = some (.cells #[.int .i64 p0, .int .i64 p1, .int .i64 p2, .int .i64 p3] 53))) (fun _ i _ => 1 - (intOf i).toNat)
            case atStart => exact ⟨0, _, R, rfl, rfl, by omega, by omega, by show _ = _; unfold repQ; simp, HA4, HP4⟩
            case round =>
              obtain ⟨q, vi, RI, rfl, rfl, hq, hRI, HRI, HAI, HPI⟩ := hrel
              obtain ⟨a9, c9, hv9, -, -⟩ := owns_slice HAI.out.rep
              subst hv9
              by_cases hqn : q < 1
              · have hqI : (q : Int) < 1 := by omega
                have eq1 : IntKind.i64.wrap ((q : Int) + 1) = ((q + 1 : Nat) : Int) := by rw [IntKind.wrap_i64]; omega
                obtain ⟨Y, hY⟩ : ∃ Y, Y = DAY + 1 + (q : Int) := ⟨_, rfl⟩
                have eq2 : IntKind.i64.wrap (DAY + 1) = DAY + 1 := by rw [IntKind.wrap_i64]; omega
                have eq3 : IntKind.i64.wrap (DAY + 1 + (q : Int)) = Y := by rw [IntKind.wrap_i64]; omega
                obtain ⟨⟨m0, m1, m2, m3⟩, -⟩ := four_c HPI.out
                have HLX : Hid (∀ W : World, Rd (W.alloc (.cells #[.int .i64 p0, .int .i64 Y, .int .i64 p2, .int .i64 1, .int .i64 DAY, .int .i64 DAY] 62)) (.slice (some ⟨W.heap.size, 0, none⟩) 1 1) 6 1 (rpE ⟨p0, Y, ⟨p2, 1, DAY, DAY⟩⟩)) := fun W => rpLit W ⟨p0, Y, ⟨p2, 1, DAY, DAY⟩⟩
                have HRJ : Hid (RI ++ [⟨p0, Y, ⟨p2, 1, DAY, DAY⟩⟩] = R ++ repQ p0 p2 DAY (q + 1)) := by show _ = _; rw [HRI.out, repQ_S, ← List.append_assoc, ← hY]
                clear hY
                go_wp2_with (at_builtin; go_must (refine wpList_append_rd rfl _ _ 58 rfl w.heap.size 62 _ 6 48 Try.underlying58 infoRp rfl (by decide) (.slice a9 RI.length c9) RI.length (enC rpE RI) rfl (owns_below HAI.out.rep ?b0) _ 1 (rpE ⟨p0, Y, ⟨p2, 1, DAY, DAY⟩⟩) rfl (HLX.out _) (rpE_one _) ?b1 ?b2 ?b3 ?_))
                case b0 => exact (Below.refl _ _).alloc (Nat.le_refl _) _
                case b1 => unfold maxLen; omega
                case b2 => omega
                case b3 => exact Nat.le_trans HAI.out.bel.size (by simp)
                intro v5 w5 hv5 hg5
                have hA1 := HAI.out.below ((Below.refl _ _).alloc (Nat.le_refl _) (.cells #[.int .i64 p0, .int .i64 Y, .int .i64 p2, .int .i64 1, .int .i64 DAY, .int .i64 DAY] 62))
                have hPa := (Below.heap_alloc _ (.cells #[.int .i64 p0, .int .i64 Y, .int .i64 p2, .int .i64 1, .int .i64 DAY, .int .i64 DAY] 62) _ (World.lt_of_heap HPI.out)).trans HPI.out
                have hP5 := (hg5.block PB (World.lt_of_heap hPa) (fun e => owns_ne hA1.rep hPa (by decide) e.symm)).trans hPa
                have hA5 := hA1.rep1 hv5 hg5
                have HP5 := Lib.hid hP5
                have HA5 := Lib.hid hA5
                obtain ⟨a10, c10, hv10, -, -⟩ := owns_slice hv5
                subst hv10
                have hRJ : (RI ++ [(⟨p0, Y, ⟨p2, 1, DAY, DAY⟩⟩ : Rp)]).length ≤ 18 + (q + 1) := by rw [List.length_append, List.length_singleton]; omega
                clear hv5 hg5 hA1 hPa hP5 hA5 HLX m0 m1 m2 m3
                go_wp2_with fail
                go_roundw
                case rel => exact ⟨q + 1, _, _, rfl, by go_num, by omega, hRJ, HRJ, HA5, HP5⟩
                case measure => simp [intOf]; omega
              · have hqe : q = 1 := by omega
                have hqI : ¬ (q : Int) < 1 := by omega
                have HRF : Hid (RI = runR ways (papers.take (k + 1))) := by show _ = _; rw [HRI.out, hqe]; exact HRX.out
                clear hqe
                go_wp2_with fail
                go_roundw
                case rel => exact ⟨k + 1, _, _, DX, RI, rfl, rfl, by go_num, by omega, HDX, HRF, HAI⟩
                case measure => simp [intOf]; omega
          · have HLB : Hid (lostB (p3 + x2) 1 = true) := by show _ = _; unfold lostB; first | (simp; omega) | simp
            have HLD : Hid (D = runD ways (papers.take (k + 1))) := by
              show _ = _
              rw [HDN.out]
              unfold runD1
              rw [if_pos HLB.out, List.append_nil]
            have HLR : Hid (R = runR ways (papers.take (k + 1))) := by
              show _ = _
              rw [HRN.out]
              unfold runR1
              rw [if_pos HLB.out, List.append_nil]
            clear HDN HRN HLB
            clear hDAY
            go_wp2_with fail
            go_roundw
            case rel => exact ⟨k + 1, _, _, D, R, rfl, rfl, by go_num, by omega, HLD, HLR, HA3⟩
            case measure => simp [intOf]; omega
          · have HLB : Hid (¬ lostB (p3 + x2) 2 = true) := by show ¬ _; unfold lostB; simp; omega
            have HRX : Hid (R ++ repQ p0 p2 DAY 0 = runR ways (papers.take (k + 1))) := by
              show _ = _
              rw [HRN.out, hDAY]
              unfold runR1
              rw [if_neg HLB.out]
              rfl
            obtain ⟨DX, hDX⟩ : ∃ DX, D ++ [⟨p0, p1, DAY⟩] = DX := ⟨_, rfl⟩
            have HDX : Hid (DX = runD ways (papers.take (k + 1))) := by
              show _ = _
              rw [HDN.out, ← hDX, hDAY]
              unfold runD1
              rw [if_neg HLB.out]
              rfl
            have HDE := Lib.hid hDX
            have HDAY := Lib.hid hDAY
            have HLX : Hid (∀ (W : World) (n : Nat), W.heap.size = n → Rd (W.alloc (.cells #[.int .i64 p0, .int .i64 p1, .int .i64 DAY] 82)) (.slice (some ⟨n, 0, none⟩) 1 1) 3 1 (dlE ⟨p0, p1, DAY⟩)) := fun W n hn => by subst hn; exact dlLit W ⟨p0, p1, DAY⟩
            clear HDN HRN HLB hDX hDAY
            go_wp2_with (at_builtin; go_must (refine wpList_append_rd rfl _ _ 57 rfl w.heap.size 82 _ 3 24 Try.underlying57 infoDl rfl (by decide) (.slice a5 D.length c5) D.length (enC dlE D) rfl (owns_below HA3.out.del ?b0) _ 1 (dlE ⟨p0, p1, DAY⟩) rfl (HLX.out _ w2.heap.size ?b4) (dlE_one _) ?b1 ?b2 ?b3 ?_))
            case b4 => first | rfl | simp
            case b0 => exact (Below.refl _ _).alloc (Nat.le_refl _) _
            case b1 => unfold maxLen; omega
            case b2 => omega
            case b3 => exact Nat.le_trans HA3.out.bel.size (by simp)
            intro v4 w4 hv4 hg4
            have hA1 := HA3.out.below ((Below.refl _ _).alloc (Nat.le_refl _) (.cells #[.int .i64 p0, .int .i64 p1, .int .i64 DAY] 82))
            have hPa := (Below.heap_alloc _ (.cells #[.int .i64 p0, .int .i64 p1, .int .i64 DAY] 82) _ (Nat.lt_of_succ_lt HZ3.out)).trans HP3.out
            have hQa := (Below.heap_alloc _ (.cells #[.int .i64 p0, .int .i64 p1, .int .i64 DAY] 82) _ HZ3.out).trans HQ3.out
            have hP4 := (hg4.block PB (World.lt_of_heap hPa) (fun e => owns_ne hA1.del hPa (by decide) e.symm)).trans hPa
            have hQ4 := (hg4.block (PB + 1) (World.lt_of_heap hQa) (fun e => owns_ne hA1.del hQa (by decide) e.symm)).trans hQa
            have hA4 := hA1.del1 hv4 hg4
            rw [HDE.out] at hA4
            have HA4 := Lib.hid hA4
            have HP4 := Lib.hid hP4
            obtain ⟨⟨r0, r1, r2, r3⟩, -⟩ := four_c hP4
            obtain ⟨⟨t0, t1, t2, t3⟩, -⟩ := four_c hQ4
            obtain ⟨a8, c8, hv8, -, -⟩ := owns_slice hA4.del
            subst hv8
            clear hv4 hg4 hA1 hPa hQa hP4 hQ4 hA4 HLX HA3 HP3 HQ3 HZ3 e0 e1 e2 e3 g0 g1 g2 g3
            go_wp2_with fail
            go_loopw [9, 71] (fun r i wi => ∃ (q : Nat) (vi : Value) (RI : List Rp), vi = r ∧ i = .int .i64 q ∧ q ≤ 0 ∧ RI.length ≤ 18 + q ∧ Hid (RI = R ++ repQ p0 p2 DAY q) ∧ Hid (RunAt w wi (.slice a8 DX.length c8) vi DX RI) ∧ Hid (wi.heap[PB]? = some (.cells #[.int .i64 p0, .int .i64 p1, .int .i64 p2, .int .i64 p3] 53))) (fun _ i _ => 0 - (intOf i).toNat)
            case atStart => exact ⟨0, _, R, rfl, rfl, by omega, by omega, by show _ = _; unfold repQ; simp, HA4, HP4⟩
            case round =>
              obtain ⟨q, vi, RI, rfl, rfl, hq, hRI, HRI, HAI, HPI⟩ := hrel
              obtain ⟨a9, c9, hv9, -, -⟩ := owns_slice HAI.out.rep
              subst hv9
              by_cases hqn : q < 0
              · exact absurd hqn (Nat.not_lt_zero _)
              · have hqe : q = 0 := by omega
                have hqI : ¬ (q : Int) < 0 := by omega
                have HRF : Hid (RI = runR ways (papers.take (k + 1))) := by show _ = _; rw [HRI.out, hqe]; exact HRX.out
                clear hqe
                go_wp2_with fail
                go_roundw
                case rel => exact ⟨k + 1, _, _, DX, RI, rfl, rfl, by go_num, by omega, HDX, HRF, HAI⟩
                case measure => simp [intOf]; omega
          · have HLB : Hid (¬ lostB (p3 + x2) 3 = true) := by show ¬ _; unfold lostB; simp; omega
            have HRX : Hid (R ++ repQ p0 p2 DAY 2 = runR ways (papers.take (k + 1))) := by
              show _ = _
              rw [HRN.out, hDAY]
              unfold runR1
              rw [if_neg HLB.out]
              rfl
            obtain ⟨DX, hDX⟩ : ∃ DX, D ++ [⟨p0, p1, DAY⟩] = DX := ⟨_, rfl⟩
            have HDX : Hid (DX = runD ways (papers.take (k + 1))) := by
              show _ = _
              rw [HDN.out, ← hDX, hDAY]
              unfold runD1
              rw [if_neg HLB.out]
              rfl
            have HDE := Lib.hid hDX
            have HDAY := Lib.hid hDAY
            have HLX : Hid (∀ (W : World) (n : Nat), W.heap.size = n → Rd (W.alloc (.cells #[.int .i64 p0, .int .i64 p1, .int .i64 DAY] 82)) (.slice (some ⟨n, 0, none⟩) 1 1) 3 1 (dlE ⟨p0, p1, DAY⟩)) := fun W n hn => by subst hn; exact dlLit W ⟨p0, p1, DAY⟩
            clear HDN HRN HLB hDX hDAY
            go_wp2_with (at_builtin; go_must (refine wpList_append_rd rfl _ _ 57 rfl w.heap.size 82 _ 3 24 Try.underlying57 infoDl rfl (by decide) (.slice a5 D.length c5) D.length (enC dlE D) rfl (owns_below HA3.out.del ?b0) _ 1 (dlE ⟨p0, p1, DAY⟩) rfl (HLX.out _ w2.heap.size ?b4) (dlE_one _) ?b1 ?b2 ?b3 ?_))
            case b4 => first | rfl | simp
            case b0 => exact (Below.refl _ _).alloc (Nat.le_refl _) _
            case b1 => unfold maxLen; omega
            case b2 => omega
            case b3 => exact Nat.le_trans HA3.out.bel.size (by simp)
            intro v4 w4 hv4 hg4
            have hA1 := HA3.out.below ((Below.refl _ _).alloc (Nat.le_refl _) (.cells #[.int .i64 p0, .int .i64 p1, .int .i64 DAY] 82))
            have hPa := (Below.heap_alloc _ (.cells #[.int .i64 p0, .int .i64 p1, .int .i64 DAY] 82) _ (Nat.lt_of_succ_lt HZ3.out)).trans HP3.out
            have hQa := (Below.heap_alloc _ (.cells #[.int .i64 p0, .int .i64 p1, .int .i64 DAY] 82) _ HZ3.out).trans HQ3.out
            have hP4 := (hg4.block PB (World.lt_of_heap hPa) (fun e => owns_ne hA1.del hPa (by decide) e.symm)).trans hPa
            have hQ4 := (hg4.block (PB + 1) (World.lt_of_heap hQa) (fun e => owns_ne hA1.del hQa (by decide) e.symm)).trans hQa
            have hA4 := hA1.del1 hv4 hg4
            rw [HDE.out] at hA4
            have HA4 := Lib.hid hA4
            have HP4 := Lib.hid hP4
            obtain ⟨⟨r0, r1, r2, r3⟩, -⟩ := four_c hP4
            obtain ⟨⟨t0, t1, t2, t3⟩, -⟩ := four_c hQ4
            obtain ⟨a8, c8, hv8, -, -⟩ := owns_slice hA4.del
            subst hv8
            clear hv4 hg4 hA1 hPa hQa hP4 hQ4 hA4 HLX HA3 HP3 HQ3 HZ3 e0 e1 e2 e3 g0 g1 g2 g3
            go_wp2_with fail
            go_loopw [9, 71] (fun r i wi => ∃ (q : Nat) (vi : Value) (RI : List Rp), vi = r ∧ i = .int .i64 q ∧ q ≤ 2 ∧ RI.length ≤ 18 + q ∧ Hid (RI = R ++ repQ p0 p2 DAY q) ∧ Hid (RunAt w wi (.slice a8 DX.length c8) vi DX RI) ∧ Hid (wi.heap[PB]? = some (.cells #[.int .i64 p0, .int .i64 p1, .int .i64 p2, .int .i64 p3] 53))) (fun _ i _ => 2 - (intOf i).toNat)
            case atStart => exact ⟨0, _, R, rfl, rfl, by omega, by omega, by show _ = _; unfold repQ; simp, HA4, HP4⟩
            case round =>
              obtain ⟨q, vi, RI, rfl, rfl, hq, hRI, HRI, HAI, HPI⟩ := hrel
              obtain ⟨a9, c9, hv9, -, -⟩ := owns_slice HAI.out.rep
              subst hv9
              by_cases hqn : q < 2
              · have hqI : (q : Int) < 2 := by omega
                have eq1 : IntKind.i64.wrap ((q : Int) + 1) = ((q + 1 : Nat) : Int) := by rw [IntKind.wrap_i64]; omega
                obtain ⟨Y, hY⟩ : ∃ Y, Y = DAY + 1 + (q : Int) := ⟨_, rfl⟩
                have eq2 : IntKind.i64.wrap (DAY + 1) = DAY + 1 := by rw [IntKind.wrap_i64]; omega
                have eq3 : IntKind.i64.wrap (DAY + 1 + (q : Int)) = Y := by rw [IntKind.wrap_i64]; omega
                obtain ⟨⟨m0, m1, m2, m3⟩, -⟩ := four_c HPI.out
                have HLX : Hid (∀ W : World, Rd (W.alloc (.cells #[.int .i64 p0, .int .i64 Y, .int .i64 p2, .int .i64 1, .int .i64 DAY, .int .i64 DAY] 62)) (.slice (some ⟨W.heap.size, 0, none⟩) 1 1) 6 1 (rpE ⟨p0, Y, ⟨p2, 1, DAY, DAY⟩⟩)) := fun W => rpLit W ⟨p0, Y, ⟨p2, 1, DAY, DAY⟩⟩
                have HRJ : Hid (RI ++ [⟨p0, Y, ⟨p2, 1, DAY, DAY⟩⟩] = R ++ repQ p0 p2 DAY (q + 1)) := by show _ = _; rw [HRI.out, repQ_S, ← List.append_assoc, ← hY]
                clear hY
                go_wp2_with (at_builtin; go_must (refine wpList_append_rd rfl _ _ 58 rfl w.heap.size 62 _ 6 48 Try.underlying58 infoRp rfl (by decide) (.slice a9 RI.length c9) RI.length (enC rpE RI) rfl (owns_below HAI.out.rep ?b0) _ 1 (rpE ⟨p0, Y, ⟨p2, 1, DAY, DAY⟩⟩) rfl (HLX.out _) (rpE_one _) ?b1 ?b2 ?b3 ?_))
                case b0 => exact (Below.refl _ _).alloc (Nat.le_refl _) _
                case b1 => unfold maxLen; omega
                case b2 => omega
                case b3 => exact Nat.le_trans HAI.out.bel.size (by simp)
                intro v5 w5 hv5 hg5
                have hA1 := HAI.out.below ((Below.refl _ _).alloc (Nat.le_refl _) (.cells #[.int .i64 p0, .int .i64 Y, .int .i64 p2, .int .i64 1, .int .i64 DAY, .int .i64 DAY] 62))
                have hPa := (Below.heap_alloc _ (.cells #[.int .i64 p0, .int .i64 Y, .int .i64 p2, .int .i64 1, .int .i64 DAY, .int .i64 DAY] 62) _ (World.lt_of_heap HPI.out)).trans HPI.out
                have hP5 := (hg5.block PB (World.lt_of_heap hPa) (fun e => owns_ne hA1.rep hPa (by decide) e.symm)).trans hPa
                have hA5 := hA1.rep1 hv5 hg5
                have HP5 := Lib.hid hP5
                have HA5 := Lib.hid hA5
                obtain ⟨a10, c10, hv10, -, -⟩ := owns_slice hv5
                subst hv10
                have hRJ : (RI ++ [(⟨p0, Y, ⟨p2, 1, DAY, DAY⟩⟩ : Rp)]).length ≤ 18 + (q + 1) := by rw [List.length_append, List.length_singleton]; omega
                clear hv5 hg5 hA1 hPa hP5 hA5 HLX m0 m1 m2 m3
                go_wp2_with fail
                go_roundw
                case rel => exact ⟨q + 1, _, _, rfl, by go_num, by omega, hRJ, HRJ, HA5, HP5⟩
                case measure => simp [intOf]; omega
              · have hqe : q = 2 := by omega
                have hqI : ¬ (q : Int) < 2 := by omega
                have HRF : Hid (RI = runR ways (papers.take (k + 1))) := by show _ = _; rw [HRI.out, hqe]; exact HRX.out
                clear hqe
                go_wp2_with fail
                go_roundw
                case rel => exact ⟨k + 1, _, _, DX, RI, rfl, rfl, by go_num, by omega, HDX, HRF, HAI⟩
                case measure => simp [intOf]; omega
          · have HLB : Hid (¬ lostB (p3 + x2) 4 = true) := by show ¬ _; unfold lostB; simp; omega
            have HRX : Hid (R ++ repQ p0 p2 DAY 1 = runR ways (papers.take (k + 1))) := by
              show _ = _
              rw [HRN.out, hDAY]
              unfold runR1
              rw [if_neg HLB.out]
              rfl
            obtain ⟨DX, hDX⟩ : ∃ DX, D ++ [⟨p0, x3, DAY⟩] = DX := ⟨_, rfl⟩
            have HDX : Hid (DX = runD ways (papers.take (k + 1))) := by
              show _ = _
              rw [HDN.out, ← hDX, hDAY]
              unfold runD1
              rw [if_neg HLB.out]
              rfl
            have HDE := Lib.hid hDX
            have HDAY := Lib.hid hDAY
            have HLX : Hid (∀ (W : World) (n : Nat), W.heap.size = n → Rd (W.alloc (.cells #[.int .i64 p0, .int .i64 x3, .int .i64 DAY] 82)) (.slice (some ⟨n, 0, none⟩) 1 1) 3 1 (dlE ⟨p0, x3, DAY⟩)) := fun W n hn => by subst hn; exact dlLit W ⟨p0, x3, DAY⟩
            clear HDN HRN HLB hDX hDAY
            go_wp2_with (at_builtin; go_must (refine wpList_append_rd rfl _ _ 57 rfl w.heap.size 82 _ 3 24 Try.underlying57 infoDl rfl (by decide) (.slice a5 D.length c5) D.length (enC dlE D) rfl (owns_below HA3.out.del ?b0) _ 1 (dlE ⟨p0, x3, DAY⟩) rfl (HLX.out _ w2.heap.size ?b4) (dlE_one _) ?b1 ?b2 ?b3 ?_))
            case b4 => first | rfl | simp
            case b0 => exact (Below.refl _ _).alloc (Nat.le_refl _) _
            case b1 => unfold maxLen; omega
            case b2 => omega
            case b3 => exact Nat.le_trans HA3.out.bel.size (by simp)
            intro v4 w4 hv4 hg4
            have hA1 := HA3.out.below ((Below.refl _ _).alloc (Nat.le_refl _) (.cells #[.int .i64 p0, .int .i64 x3, .int .i64 DAY] 82))
            have hPa := (Below.heap_alloc _ (.cells #[.int .i64 p0, .int .i64 x3, .int .i64 DAY] 82) _ (Nat.lt_of_succ_lt HZ3.out)).trans HP3.out
            have hQa := (Below.heap_alloc _ (.cells #[.int .i64 p0, .int .i64 x3, .int .i64 DAY] 82) _ HZ3.out).trans HQ3.out
            have hP4 := (hg4.block PB (World.lt_of_heap hPa) (fun e => owns_ne hA1.del hPa (by decide) e.symm)).trans hPa
            have hQ4 := (hg4.block (PB + 1) (World.lt_of_heap hQa) (fun e => owns_ne hA1.del hQa (by decide) e.symm)).trans hQa
            have hA4 := hA1.del1 hv4 hg4
            rw [HDE.out] at hA4
            have HA4 := Lib.hid hA4
            have HP4 := Lib.hid hP4
            obtain ⟨⟨r0, r1, r2, r3⟩, -⟩ := four_c hP4
            obtain ⟨⟨t0, t1, t2, t3⟩, -⟩ := four_c hQ4
            obtain ⟨a8, c8, hv8, -, -⟩ := owns_slice hA4.del
            subst hv8
            clear hv4 hg4 hA1 hPa hQa hP4 hQ4 hA4 HLX HA3 HP3 HQ3 HZ3 e0 e1 e2 e3 g0 g1 g2 g3
            go_wp2_with fail
            go_loopw [9, 71] (fun r i wi => ∃ (q : Nat) (vi : Value) (RI : List Rp), vi = r ∧ i = .int .i64 q ∧ q ≤ 1 ∧ RI.length ≤ 18 + q ∧ Hid (RI = R ++ repQ p0 p2 DAY q) ∧ Hid (RunAt w wi (.slice a8 DX.length c8) vi DX RI) ∧ Hid (wi.heap[PB]? = some (.cells #[.int .i64 p0, .int .i64 p1, .int .i64 p2, .int .i64 p3] 53))) (fun _ i _ => 1 - (intOf i).toNat)
            case atStart => exact ⟨0, _, R, rfl, rfl, by omega, by omega, by show _ = _; unfold repQ; simp, HA4, HP4⟩
            case round =>
              obtain ⟨q, vi, RI, rfl, rfl, hq, hRI, HRI, HAI, HPI⟩ := hrel
              obtain ⟨a9, c9, hv9, -, -⟩ := owns_slice HAI.out.rep
              subst hv9
              by_cases hqn : q < 1
              · have hqI : (q : Int) < 1 := by omega
                have eq1 : IntKind.i64.wrap ((q : Int) + 1) = ((q + 1 : Nat) : Int) := by rw [IntKind.wrap_i64]; omega
                obtain ⟨Y, hY⟩ : ∃ Y, Y = DAY + 1 + (q : Int) := ⟨_, rfl⟩
                have eq2 : IntKind.i64.wrap (DAY + 1) = DAY + 1 := by rw [IntKind.wrap_i64]; omega
                have eq3 : IntKind.i64.wrap (DAY + 1 + (q : Int)) = Y := by rw [IntKind.wrap_i64]; omega
                obtain ⟨⟨m0, m1, m2, m3⟩, -⟩ := four_c HPI.out
                have HLX : Hid (∀ W : World, Rd (W.alloc (.cells #[.int .i64 p0, .int .i64 Y, .int .i64 p2, .int .i64 1, .int .i64 DAY, .int .i64 DAY] 62)) (.slice (some ⟨W.heap.size, 0, none⟩) 1 1) 6 1 (rpE ⟨p0, Y, ⟨p2, 1, DAY, DAY⟩⟩)) := fun W => rpLit W ⟨p0, Y, ⟨p2, 1, DAY, DAY⟩⟩
                have HRJ : Hid (RI ++ [⟨p0, Y, ⟨p2, 1, DAY, DAY⟩⟩] = R ++ repQ p0 p2 DAY (q + 1)) := by show _ = _; rw [HRI.out, repQ_S, ← List.append_assoc, ← hY]
                clear hY
                go_wp2_with (at_builtin; go_must (refine wpList_append_rd rfl _ _ 58 rfl w.heap.size 62 _ 6 48 Try.underlying58 infoRp rfl (by decide) (.slice a9 RI.length c9) RI.length (enC rpE RI) rfl (owns_below HAI.out.rep ?b0) _ 1 (rpE ⟨p0, Y, ⟨p2, 1, DAY, DAY⟩⟩) rfl (HLX.out _) (rpE_one _) ?b1 ?b2 ?b3 ?_))
                case b0 => exact (Below.refl _ _).alloc (Nat.le_refl _) _
                case b1 => unfold maxLen; omega
                case b2 => omega
                case b3 => exact Nat.le_trans HAI.out.bel.size (by simp)
                intro v5 w5 hv5 hg5
                have hA1 := HAI.out.below ((Below.refl _ _).alloc (Nat.le_refl _) (.cells #[.int .i64 p0, .int .i64 Y, .int .i64 p2, .int .i64 1, .int .i64 DAY, .int .i64 DAY] 62))
                have hPa := (Below.heap_alloc _ (.cells #[.int .i64 p0, .int .i64 Y, .int .i64 p2, .int .i64 1, .int .i64 DAY, .int .i64 DAY] 62) _ (World.lt_of_heap HPI.out)).trans HPI.out
                have hP5 := (hg5.block PB (World.lt_of_heap hPa) (fun e => owns_ne hA1.rep hPa (by decide) e.symm)).trans hPa
                have hA5 := hA1.rep1 hv5 hg5
                have HP5 := Lib.hid hP5
                have HA5 := Lib.hid hA5
                obtain ⟨a10, c10, hv10, -, -⟩ := owns_slice hv5
                subst hv10
                have hRJ : (RI ++ [(⟨p0, Y, ⟨p2, 1, DAY, DAY⟩⟩ : Rp)]).length ≤ 18 + (q + 1) := by rw [List.length_append, List.length_singleton]; omega
                clear hv5 hg5 hA1 hPa hP5 hA5 HLX m0 m1 m2 m3
                go_wp2_with fail
                go_roundw
                case rel => exact ⟨q + 1, _, _, rfl, by go_num, by omega, hRJ, HRJ, HA5, HP5⟩
                case measure => simp [intOf]; omega
              · have hqe : q = 1 := by omega
                have hqI : ¬ (q : Int) < 1 := by omega
                have HRF : Hid (RI = runR ways (papers.take (k + 1))) := by show _ = _; rw [HRI.out, hqe]; exact HRX.out
                clear hqe
                go_wp2_with fail
                go_roundw
                case rel => exact ⟨k + 1, _, _, DX, RI, rfl, rfl, by go_num, by omega, HDX, HRF, HAI⟩
                case measure => simp [intOf]; omega
          · have HLB : Hid (¬ lostB (p3 + x2) 5 = true) := by show ¬ _; unfold lostB; simp; omega
            have HRX : Hid (R ++ repQ p0 p2 DAY 1 = runR ways (papers.take (k + 1))) := by
              show _ = _
              rw [HRN.out, hDAY]
              unfold runR1
              rw [if_neg HLB.out]
              rfl
            have HDX : Hid (D = runD ways (papers.take (k + 1))) := by
              show _ = _
              rw [HDN.out]
              unfold runD1
              rw [if_neg HLB.out]
              simp
            have HDAY := Lib.hid hDAY
            have HA4 := HA3
            have HP4 := HP3
            clear HDN HRN HLB hDAY
            go_wp2_with fail
            go_loopw [9, 71] (fun r i wi => ∃ (q : Nat) (vi : Value) (RI : List Rp), vi = r ∧ i = .int .i64 q ∧ q ≤ 1 ∧ RI.length ≤ 18 + q ∧ Hid (RI = R ++ repQ p0 p2 DAY q) ∧ Hid (RunAt w wi (.slice a5 D.length c5) vi D RI) ∧ Hid (wi.heap[PB]? = some (.cells #[.int .i64 p0, .int .i64 p1, .int .i64 p2, .int .i64 p3] 53))) (fun _ i _ => 1 - (intOf i).toNat)
            case atStart => exact ⟨0, _, R, rfl, rfl, by omega, by omega, by show _ = _; unfold repQ; simp, HA4, HP4⟩
            case round =>
              obtain ⟨q, vi, RI, rfl, rfl, hq, hRI, HRI, HAI, HPI⟩ := hrel
              obtain ⟨a9, c9, hv9, -, -⟩ := owns_slice HAI.out.rep
              subst hv9
              by_cases hqn : q < 1
              · have hqI : (q : Int) < 1 := by omega
                have eq1 : IntKind.i64.wrap ((q : Int) + 1) = ((q + 1 : Nat) : Int) := by rw [IntKind.wrap_i64]; omega
                obtain ⟨Y, hY⟩ : ∃ Y, Y = DAY + 1 + (q : Int) := ⟨_, rfl⟩
                have eq2 : IntKind.i64.wrap (DAY + 1) = DAY + 1 := by rw [IntKind.wrap_i64]; omega
                have eq3 : IntKind.i64.wrap (DAY + 1 + (q : Int)) = Y := by rw [IntKind.wrap_i64]; omega
                obtain ⟨⟨m0, m1, m2, m3⟩, -⟩ := four_c HPI.out
                have HLX : Hid (∀ W : World, Rd (W.alloc (.cells #[.int .i64 p0, .int .i64 Y, .int .i64 p2, .int .i64 1, .int .i64 DAY, .int .i64 DAY] 62)) (.slice (some ⟨W.heap.size, 0, none⟩) 1 1) 6 1 (rpE ⟨p0, Y, ⟨p2, 1, DAY, DAY⟩⟩)) := fun W => rpLit W ⟨p0, Y, ⟨p2, 1, DAY, DAY⟩⟩
                have HRJ : Hid (RI ++ [⟨p0, Y, ⟨p2, 1, DAY, DAY⟩⟩] = R ++ repQ p0 p2 DAY (q + 1)) := by show _ = _; rw [HRI.out, repQ_S, ← List.append_assoc, ← hY]
                clear hY
                go_wp2_with (at_builtin; go_must (refine wpList_append_rd rfl _ _ 58 rfl w.heap.size 62 _ 6 48 Try.underlying58 infoRp rfl (by decide) (.slice a9 RI.length c9) RI.length (enC rpE RI) rfl (owns_below HAI.out.rep ?b0) _ 1 (rpE ⟨p0, Y, ⟨p2, 1, DAY, DAY⟩⟩) rfl (HLX.out _) (rpE_one _) ?b1 ?b2 ?b3 ?_))
                case b0 => exact (Below.refl _ _).alloc (Nat.le_refl _) _
                case b1 => unfold maxLen; omega
                case b2 => omega
                case b3 => exact Nat.le_trans HAI.out.bel.size (by simp)
                intro v5 w5 hv5 hg5
                have hA1 := HAI.out.below ((Below.refl _ _).alloc (Nat.le_refl _) (.cells #[.int .i64 p0, .int .i64 Y, .int .i64 p2, .int .i64 1, .int .i64 DAY, .int .i64 DAY] 62))
                have hPa := (Below.heap_alloc _ (.cells #[.int .i64 p0, .int .i64 Y, .int .i64 p2, .int .i64 1, .int .i64 DAY, .int .i64 DAY] 62) _ (World.lt_of_heap HPI.out)).trans HPI.out
                have hP5 := (hg5.block PB (World.lt_of_heap hPa) (fun e => owns_ne hA1.rep hPa (by decide) e.symm)).trans hPa
                have hA5 := hA1.rep1 hv5 hg5
                have HP5 := Lib.hid hP5
                have HA5 := Lib.hid hA5
                obtain ⟨a10, c10, hv10, -, -⟩ := owns_slice hv5
                subst hv10
                have hRJ : (RI ++ [(⟨p0, Y, ⟨p2, 1, DAY, DAY⟩⟩ : Rp)]).length ≤ 18 + (q + 1) := by rw [List.length_append, List.length_singleton]; omega
                clear hv5 hg5 hA1 hPa hP5 hA5 HLX m0 m1 m2 m3
                go_wp2_with fail
                go_roundw
                case rel => exact ⟨q + 1, _, _, rfl, by go_num, by omega, hRJ, HRJ, HA5, HP5⟩
                case measure => simp [intOf]; omega
              · have hqe : q = 1 := by omega
                have hqI : ¬ (q : Int) < 1 := by omega
                have HRF : Hid (RI = runR ways (papers.take (k + 1))) := by show _ = _; rw [HRI.out, hqe]; exact HRX.out
                clear hqe
                go_wp2_with fail
                go_roundw
                case rel => exact ⟨k + 1, _, _, D, RI, rfl, rfl, by go_num, by omega, HDX, HRF, HAI⟩
                case measure => simp [intOf]; omega
    · have hke : k = papers.length := by omega
      have hkI : ¬ (k : Int) < (papers.length : Int) := by omega
      rw [hke, List.take_length] at HDK HRK
      clear hke
      have HS1 := Lib.hid (sortedDelG w.heap.size 82 vd D u wo HAT.out.del (by omega))
      have HS2 : Hid (∀ W, W.ownsRow w.heap.size 62 6 vr R.length (enC rpE R) → Calls Try.prog 49 #[vr, .int .i64 u, .func (.func 50) #[] #[]] W fun e w' => ∃ v', e = .returned v' ∧ ∃ l', l'.Perm (R.filter (fun x => !decide (u < x.day))) ∧ w'.ownsRow w.heap.size 62 6 v' l'.length (enC rpE l') ∧ W.grownBy w' vr.ownBlock) := fun W h =>
        sortedRepG w.heap.size 62 vr R u W h (by omega)
      obtain ⟨a5, c5, rfl, -, -⟩ := owns_slice HAT.out.del
      obtain ⟨a6, c6, rfl, -, -⟩ := owns_slice HAT.out.rep
      go_wp2_with fail
      refine HS1.out.mono ?_
      rintro e w2 ⟨v1, rfl, D', hpD, hoD, hgD⟩
      have hr1 := HAT.out.rep.kept hgD (owns_apart HAT.out.rep HAT.out.del (by decide))
      have HBD := Lib.hid (below_append HAT.out.bel HAT.out.del hgD HAT.out.bel.size)
      have HOD := Lib.hid hoD
      have HPD : Hid (D'.Perm ((runD ways papers).filter (fun x => !decide (u < x.day)))) := by show List.Perm _ _; rw [← HDK.out]; exact hpD
      have HR1 := Lib.hid hr1
      obtain ⟨a7, c7, rfl, -, -⟩ := owns_slice hoD
      clear hpD hoD hgD hr1 HS1
      go_wp2_with fail
      refine (HS2.out w2 HR1.out).mono ?_
      rintro e w3 ⟨v2, rfl, R', hpR, hoR, hgR⟩
      have HPR : Hid (R'.Perm ((runR ways papers).filter (fun x => !decide (u < x.day)))) := by show List.Perm _ _; rw [← HRK.out]; exact hpR
      have HF : Hid (RunAt w w3 (.slice a7 D'.length c7) v2 D' R') := ⟨HOD.out.kept hgR (owns_apart HOD.out HR1.out (by decide)), hoR, below_append HBD.out HR1.out hgR HBD.out.size⟩
      obtain ⟨a8, c8, rfl, -, -⟩ := owns_slice hoR
      clear hpR hoR hgR HS2
      go_wp2_with fail
      go_ret2
      exact ⟨_, _, rfl, D', R', HPD, HPR, HF⟩

end Go.Proofs.Ytbiedadgejgnoaa
