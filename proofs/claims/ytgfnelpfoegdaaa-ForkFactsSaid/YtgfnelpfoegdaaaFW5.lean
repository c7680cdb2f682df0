/-
  Contract of fork.Events.
-/
import Derived.Test.YtgfnelpfoegdaaaFW4
import Derived.Test.YtgfnelpfoegdaaaCalm
namespace Go.Proofs.Ytgfnelpfoegdaaa
open Go.RowKit Go.Shelf
attribute [local go_sem] Oper.semAt_some

theorem forkEvents_none (l : List Br) (v : Value) (b : Int) (w : World) (hl : IsBrs w v l) (hb : ¬ (0 ≤ b ∧ b < l.length)) :
    Calls Try.prog 26 #[v, .int .i64 b] w fun e w' => e = .returned (.slice none 0 0) ∧ Below w.heap.size w w' := by
  obtain ⟨a, cap, hv, -, -, -⟩ := hl.open
  subst hv
  have hd : decide ((0 : Int) ≤ b ∧ b < (l.length : Int)) = false := by simpa using hb
  clear hl hb
  go_enter Try.func26, Try.ntmps26
  go_wp2_with (go_at_call 54; refine (has_any _ _ _ _ _).mono ?_; rintro e w' ⟨rfl, rfl⟩)
  go_ret
  exact ⟨rfl, (Below.refl _ _).alloc (Nat.le_refl _) _⟩

set_option maxHeartbeats 1000000 in
set_option maxRecDepth 100000 in
theorem forkEvents (l : List Br) (v : Value) (b : Nat) (x : Br) (w : World) (hl : IsBrs w v l) (hx : l[b]? = some x) (hstr : StrB l b) (hlen : sz x ≤ 1000000) :
    Calls Try.prog 26 #[v, .int .i64 b] w fun e w' => ∃ v', e = .returned v' ∧ IsInts w' v' (events l b) ∧ Below w.heap.size w w' := by
  obtain ⟨hlt, hxx⟩ := List.getElem?_eq_some_iff.1 hx
  obtain ⟨hp1, hp2, hp3, hp4⟩ := hstr b x (Int.le_refl _) hx
  have hel := events_len b x hstr hx
  obtain ⟨N, hN⟩ : ∃ N, (events l b).length = N := ⟨_, rfl⟩
  rw [hN] at hel
  have hN6 : N ≤ 1000000 := by omega
  obtain ⟨a, cap, hv, hl63, -, hc⟩ := hl.open
  subst hv
  have HC := Lib.hid hc; clear hc
  have HL := Lib.hid hl; clear hl
  have HS := Lib.hid hstr; clear hstr
  have HN := Lib.hid hN; clear hN
  have hd : decide ((0 : Int) ≤ (b : Int) ∧ (b : Int) < (l.length : Int)) = true := by simp; omega
  have hw1 : ∀ n, Fence.wide.depth.isSome = true → 1 ≤ n := fun n h => absurd h (by simp [Fence.wide])
  have HX := Lib.hid hx; clear hx hxx hlen
  have HZ := Lib.hid hel.symm
  have hsb : Hid (sz x ≤ 9000000000000000000) := (show sz x ≤ _ by omega)
  clear hel
  refine (callsIn_wide (n := 5)).1 ?_
  refine callsIn_of_wp_marks Try.func26 rfl trivial ?_ rfl
  simp only [Try.ntmps26, List.size_toArray, List.length_cons, List.length_nil, Nat.reduceAdd, Nat.reduceSub, Array.replicate_succ, Array.replicate_zero, List.push_toArray, List.append_toArray, List.nil_append, List.cons_append]
  gi_wp2_with (refine ⟨trivial, ?_⟩; gi_at_call 54; refine (callsIn_wide.2 (has_any _ _ _ _ _)).mono ?_; rintro e w' ⟨rfl, rfl⟩)
  refine ⟨trivial, (callsIn_wide.2 (size_any l _ b x _ (HL.out.below ((Below.refl _ _).alloc (Nat.le_refl _) _)) HX.out hp3 hsb.out)).mono ?_⟩
  rintro e w1 ⟨rfl, n1, rfl⟩
  rw [HZ.out]
  gi_wp2_with (gi_at_make; go_must (refine wpListIn_make_rd rfl _ _ 23 rfl w.heap.size 3 _ 1 8 Try.underlying23 infoInt _ _ N rfl rfl rfl rfl ?b0 ?b1 ?b2 ?_))
  case b0 => omega
  case b1 => unfold maxLen; omega
  case b2 => simp
  intro w1 hown hg
  have hb1 : Below w.heap.size w w1 := (below_drewN ((Below.refl w.heap.size w).alloc (Nat.le_refl _) (.cells #[.slice a l.length cap] 22)) n1).grown hg (by simp) (fun k hk => by cases hk)
  have hbx1 : Boxed w1 w.heap.size 22 (.slice a l.length cap) := by
    have h9 : Boxed (w.alloc (.cells #[.slice a l.length cap] 22)) w.heap.size 22 (.slice a l.length cap) := Boxed.new w _ _
    exact Boxed.kept (W := (w.alloc (.cells #[.slice a l.length cap] 22)).drewN n1) h9 hg (by simp)
  have hs1 : w.heap.size + 2 ≤ w1.heap.size := by
    have h9 := (hown.lt _ rfl).2
    simp at h9
    omega
  have hown2 : w1.ownsRow w.heap.size 3 1 (.slice (some ⟨w.heap.size + 1, 0, none⟩) N N) N (ints (List.replicate N 0)) := by
    have h9 := hown
    rw [toList_madeCells_one] at h9
    simpa [ints] using h9
  have HO := Lib.hid hown2
  have HB := Lib.hid hb1
  have e1 := hbx1.cell
  have e2 : ∀ o o', ((w1.alloc o).alloc o').cell? ⟨w.heap.size, 0, none⟩ = some (.slice a l.length cap) := fun o o' => ((hbx1.alloc o).alloc o').cell
  have HBX := Lib.hid hbx1
  clear hg hown hown2 hb1 hbx1
  gi_wp2_with (refine ⟨trivial, ?_⟩; gi_at_call 55; refine (callsIn_wide.2 (upwards_any _ _ _ _ _)).mono ?_; rintro e w' ⟨rfl, rfl⟩)
  have ho0 := HO.out.alloc (.cells #[.slice (some ⟨w.heap.size + 1, 0, none⟩) N N] 23)
  have hb0 := HB.out.alloc HB.out.size (.cells #[.slice (some ⟨w.heap.size + 1, 0, none⟩) N N] 23)
  have hx0 := HBX.out.alloc (.cells #[.slice (some ⟨w.heap.size + 1, 0, none⟩) N N] 23)
  have hout0 : Boxed (w1.alloc (.cells #[.slice (some ⟨w.heap.size + 1, 0, none⟩) N N] 23)) w1.heap.size 23 (.slice (some ⟨w.heap.size + 1, 0, none⟩) N N) := Boxed.new _ _ _
  have hz1 : (w1.alloc (.cells #[.slice (some ⟨w.heap.size + 1, 0, none⟩) N N] 23)).heap.size = w1.heap.size + 1 := by simp
  generalize w1.alloc (.cells #[.slice (some ⟨w.heap.size + 1, 0, none⟩) N N] 23) = W1 at *
  have hend0 : Boxed (W1.alloc (.cells #[.int .i64 (N : Int)] 3)) (w1.heap.size + 1) 3 (.int .i64 (N : Int)) := by rw [← hz1]; exact Boxed.new _ _ _
  have hz2 : (W1.alloc (.cells #[.int .i64 (N : Int)] 3)).heap.size = w1.heap.size + 1 + 1 := by simp [hz1]
  have ho1 := ho0.alloc (.cells #[.int .i64 (N : Int)] 3)
  have hb1 := hb0.alloc hb0.size (.cells #[.int .i64 (N : Int)] 3)
  have hx1 := hx0.alloc (.cells #[.int .i64 (N : Int)] 3)
  have hout1 := hout0.alloc (.cells #[.int .i64 (N : Int)] 3)
  clear ho0 hb0 hx0 hout0 hz1
  generalize W1.alloc (.cells #[.int .i64 (N : Int)] 3) = W2 at *
  have hbl0 : Boxed (W2.alloc (.cells #[.slice a l.length cap] 22)) (w1.heap.size + 1 + 1) 22 (.slice a l.length cap) := by rw [← hz2]; exact Boxed.new _ _ _
  have hz3 : (W2.alloc (.cells #[.slice a l.length cap] 22)).heap.size = w1.heap.size + 1 + 1 + 1 := by simp [hz2]
  have ho2 := ho1.alloc (.cells #[.slice a l.length cap] 22)
  have hb2 := hb1.alloc hb1.size (.cells #[.slice a l.length cap] 22)
  have hx2 := hx1.alloc (.cells #[.slice a l.length cap] 22)
  have hout2 := hout1.alloc (.cells #[.slice a l.length cap] 22)
  have hend2 := hend0.alloc (.cells #[.slice a l.length cap] 22)
  clear ho1 hb1 hx1 hout1 hend0 hz2
  generalize W2.alloc (.cells #[.slice a l.length cap] 22) = W3 at *
  have hbn0 : Boxed (W3.alloc (.cells #[.int .i64 (b : Int)] 3)) (w1.heap.size + 1 + 1 + 1) 3 (.int .i64 (b : Int)) := by rw [← hz3]; exact Boxed.new _ _ _
  have hz4 : (W3.alloc (.cells #[.int .i64 (b : Int)] 3)).heap.size = w1.heap.size + 4 := by simp [hz3]
  have ho3 := ho2.alloc (.cells #[.int .i64 (b : Int)] 3)
  have hb3 := hb2.alloc hb2.size (.cells #[.int .i64 (b : Int)] 3)
  have hx3 := hx2.alloc (.cells #[.int .i64 (b : Int)] 3)
  have hout3 := hout2.alloc (.cells #[.int .i64 (b : Int)] 3)
  have hend3 := hend2.alloc (.cells #[.int .i64 (b : Int)] 3)
  have hbl3 := hbl0.alloc (.cells #[.int .i64 (b : Int)] 3)
  clear ho2 hb2 hx2 hout2 hend2 hbl0 hz3 e1 e2
  generalize W3.alloc (.cells #[.int .i64 (b : Int)] 3) = W0 at *
  have hsB : w.heap.size ≤ w1.heap.size := HB.out.size
  clear HO HB HBX
  have hfs : Fill l (b : Int) [] N (List.replicate N 0) := by rw [← HN.out]; exact fill_start HS.out.dec HX.out
  have hlen0 : (chainZ l (b : Int)) ≠ [] := by
    rw [chainZ_nat, chain_some HX.out hp2]
    exact List.cons_ne_nil _ _
  refine wpIn_rangeFunc_T rfl (by omega) (gf := 65) (lb := #[.pointer (some ⟨w1.heap.size + 1 + 1, 0, none⟩), .pointer (some ⟨w1.heap.size + 1 + 1 + 1, 0, none⟩)]) rfl trivial (enters_of Try.func65 (by kernel_rfl) rfl)
    (upwards_seq _ l _ b _ _ w W0 HL.out hbl3 hbn0 hb3 (by omega) (by omega) HS.out.dec) (by omega) ?kt ?kb (fun _ => rfl)
    (fun pre W => ∃ (e : Nat) (ys : List Int), Boxed W w1.heap.size 23 (.slice (some ⟨w.heap.size + 1, 0, none⟩) N N) ∧ Boxed W (w1.heap.size + 1) 3 (.int .i64 (e : Int)) ∧ Boxed W w.heap.size 22 (.slice a l.length cap) ∧
      W.ownsRow w.heap.size 3 1 (.slice (some ⟨w.heap.size + 1, 0, none⟩) N N) N (ints ys) ∧ Fill l (b : Int) pre e ys ∧ Below w.heap.size w W ∧ w1.heap.size + 4 ≤ W.heap.size) ?hI ⟨N, List.replicate N 0, hout3, hend3, hx3, ho3, hfs, hb3, by omega⟩
    (fun x => { tmps := #[.slice a l.length cap, .int .i64 (b : Int), .pointer (some ⟨w.heap.size, 0, none⟩), undef, .slice none 0 0, .pointer (some ⟨w1.heap.size, 0, none⟩), .pointer (some ⟨w1.heap.size + 1, 0, none⟩), .int .i64 (x : Int), undef, .slice a l.length cap, .int .i64 (b : Int), .bool true, .bool false, .slice a l.length cap, .int .i64 (b : Int), .int .i64 (N : Int),
      .slice (some ⟨w.heap.size + 1, 0, none⟩) N N, .slice (some ⟨w.heap.size + 1, 0, none⟩) N N, .int .i64 (N : Int), .slice a l.length cap, .int .i64 (b : Int), .func (.func 65) #[] #[.pointer (some ⟨w1.heap.size + 1 + 1, 0, none⟩), .pointer (some ⟨w1.heap.size + 1 + 1 + 1, 0, none⟩)], .int .i64 (x : Int),
      undef, undef, undef, undef, undef, undef, undef, undef, undef, undef, undef, undef, undef, undef, undef, undef, undef, undef, undef, undef], defers := [] }) ?assign ?body ?done
  case kt => exact fun h k => ⟨h.1.trans k.1, k.2.1.trans h.2.1, k.2.2.trans h.2.2⟩
  case kb => exact fun W l o hl => ⟨⟨rfl, rfl, rfl, by simp [World.putObj], fun k hk => World.putObj_heap_other (by omega)⟩, World.putObj_heap_other (by omega), World.putObj_heap_other (by omega)⟩
  case hI =>
    rintro s X Y row ⟨e, ys, i1, i2, i3, i4, i5, i6, i7⟩ hg hr
    refine ⟨e, ys, i1.kept hg (fun e => by rcases hr _ e.symm with h | ⟨h, -⟩ <;> omega), i2.kept hg (fun e => by rcases hr _ e.symm with h | ⟨h, -⟩ <;> omega), i3.kept hg (fun e => by rcases hr _ e.symm with h | ⟨h, -⟩ <;> omega),
      i4.kept hg (.inr (fun e => by simp only [Value.ownBlock] at e; rcases hr _ e.symm with h | ⟨h, -⟩ <;> omega)), i5, i6.grown hg i6.size (fun k e => by rcases hr _ e with h | ⟨h, -⟩ <;> omega), by have := hg.size; omega⟩
  case assign =>
    intro lp x W K hK
    gi_wp2
    exact hK
  case body =>
    rintro lp pre k W hlp ⟨e, ys, i1, i2, i3, i4, i5, i6, i7⟩ ⟨post, hpost⟩
    obtain ⟨y, hy, hkb, hyp, -⟩ := chain_split pre (b : Int) k post HS.out.dec hpost
    obtain ⟨hklt, hyy⟩ := List.getElem?_eq_some_iff.1 hy
    obtain ⟨hq1, hq2, hq3, hq4⟩ := HS.out k y hkb hy
    obtain ⟨A, hA⟩ := Int.eq_ofNat_of_zero_le hq3
    obtain ⟨bb, off, u, ha, hu, -, -, c2, c3, -⟩ := HC.out k hklt
    subst ha
    rw [hyy] at hu c2
    rw [hA] at c2
    have hblt : bb < w.heap.size := World.block_lt_of_cell? _ _ c2
    have d2 : W.cell? ⟨bb, off + k * 5 + 2, none⟩ = some (.int .i64 (A : Int)) := by rw [i6.cell hblt]; exact c2
    have d3 : W.cell? ⟨bb, off + k * 5 + 3, none⟩ = some u := by rw [i6.cell hblt]; exact c3
    obtain ⟨hst1, hst2⟩ := fill_step HS.out i5 hpost hy
    have hysl := i5.1
    have heN : e ≤ N := by have h8 := i5.2.1; have h9 := HN.out; rw [i5.1, eventsZ_nat, h9] at h8; exact h8
    have e1 := i1.cell
    have e2 := i2.cell
    have e3 := i3.cell
    have e4 := i2.frozen
    by_cases hae : A < e
    · have h8 := hst1 (by omega)
      simp only [hA, Int.toNat_natCast] at h8
      have H1 := Lib.hid h8; clear hst1 h8
      have hai : (A : Int) < (e : Int) := by omega
      have I1 := Lib.hid i1
      have I2 := Lib.hid i2
      have I3 := Lib.hid i3
      have I4 := Lib.hid i4
      have I5 := Lib.hid i5
      have I6 := Lib.hid i6
      have HU := Lib.hid hu
      clear i1 i2 i3 i4 i5 i6 hu c2 c3 hysl hy hyy hA hpost
      have hsz1 : (Try.prog.info? 3).map (·.size) = some 1 := by kernel_rfl
      obtain ⟨wc, hcp, hown5, hg5⟩ := run_copy_part (P := Try.prog) (w := W.drew) 23 3 3 Try.underlying23 hsz1 w.heap.size (w.heap.size + 1) N N ys y.own I4.out u (HU.out.below I6.out.drew) A (e - A) (N - A) (by have := H1.out.1; omega) (by omega)
      have HO5 := Lib.hid hown5
      have HG5 := Lib.hid hg5
      clear hsz1 hown5 hg5
      gi_wp2_with fail
      refine wpIn_region_still_tail 9 (by kernel_rfl) (by kernel_rfl) (by kernel_rfl) (by rintro ⟨_, _, h⟩; exact h) ?_
      simp only [List.take_succ_cons, List.take_zero, List.drop_succ_cons, List.drop_zero]
      have hq5 : (0 : Int) ≤ (A : Int) := by omega
      have hq6 : (A : Int) ≤ (e : Int) := by omega
      have hq7 : (e : Int) ≤ (N : Int) := by omega
      have hq8 : (0 : Int) ≤ (e : Int) := by omega
      have hNA : ¬ (N = A) := by omega
      iterate 9 still_step
      refine wpStill_nil ?_
      go_wp2
      have hG := HG5.out
      have j1 : Boxed wc w1.heap.size 23 (.slice (some ⟨w.heap.size + 1, 0, none⟩) N N) := Boxed.kept (W := W.drew) I1.out hG (by intro h; have h := Option.some.inj h; omega)
      have j2 : Boxed wc (w1.heap.size + 1) 3 (.int .i64 (e : Int)) := Boxed.kept (W := W.drew) I2.out hG (by intro h; have h := Option.some.inj h; omega)
      have j3 : Boxed wc w.heap.size 22 (.slice (some ⟨bb, off, none⟩) l.length cap) := Boxed.kept (W := W.drew) I3.out hG (by intro h; have h := Option.some.inj h; omega)
      have j6 : Below w.heap.size w wc := I6.out.drew.grown hG I6.out.size (fun k hk => by cases hk; omega)
      have f2 := j2.cell
      have f4 := j2.frozen
      have hfin : postT W0.heap.size (KpUp w.heap.size (w1.heap.size + 1 + 1) (w1.heap.size + 1 + 1 + 1)) (fun pre W => ∃ (e : Nat) (ys : List Int), Boxed W w1.heap.size 23 (.slice (some ⟨w.heap.size + 1, 0, none⟩) N N) ∧ Boxed W (w1.heap.size + 1) 3 (.int .i64 (e : Int)) ∧ Boxed W w.heap.size 22 (.slice (some ⟨bb, off, none⟩) l.length cap) ∧
          W.ownsRow w.heap.size 3 1 (.slice (some ⟨w.heap.size + 1, 0, none⟩) N N) N (ints ys) ∧ Fill l (b : Int) pre e ys ∧ Below w.heap.size w W ∧ w1.heap.size + 4 ≤ W.heap.size) (pre ++ [k]) W Exit.normal { tmps := #[], defers := [] } (wc.setCell ⟨w1.heap.size + 1, 0, none⟩ (.int .i64 (A : Int))) := by
        have hsw : W.heap.size ≤ wc.heap.size := hG.size
        refine ⟨(((KeepsOthers.drew W).from _).trans (KeepsFrom.of_grownBy hG (fun j hj => by cases hj; omega))).trans ((KeepsOthers.setCell _ _ _).from _),
          ⟨(((Below.refl w.heap.size W).drew).grown hG (by show _ ≤ W.heap.size; omega) (fun k hk => by cases hk; omega)).setCell (p := ⟨w1.heap.size + 1, 0, none⟩) (by show _ ≤ w1.heap.size + 1; omega) _, ?_, ?_⟩,
          A, _, j1.other (by omega) _, j2.set _, j3.other (by omega) _, HO5.out.kept (grownBy_setCell' wc (w1.heap.size + 1) (.int .i64 (A : Int))) (.inr (by simp only [Value.ownBlock]; intro h; have h := Option.some.inj h; omega)), ?_, j6.setCell (p := ⟨w1.heap.size + 1, 0, none⟩) (by show _ ≤ w1.heap.size + 1; omega) _, by simp; omega⟩
        · exact (Below.heap_setCell _ _ _ _ (by show _ ≠ w1.heap.size + 1; omega)).trans (hG.block _ (by show _ < W.heap.size; omega) (by intro h; have h := Option.some.inj h; omega))
        · exact (Below.heap_setCell _ _ _ _ (by show _ ≠ w1.heap.size + 1; omega)).trans (hG.block _ (by show _ < W.heap.size; omega) (by intro h; have h := Option.some.inj h; omega))
        · have h9 := H1.out.2
          rwa [show A + (e - A) = e from by omega]
      have HF := Lib.hid hfin
      clear hfin j1 j2 j3 j6 hG hcp HO5 HG5 I1 I2 I3 I4 I5 I6 hst2
      gi_wp2
      exact HF.out
    · have hea : (e : Int) ≤ (A : Int) := by omega
      have hfl := hst2 (by omega)
      have hfin : postT W0.heap.size (KpUp w.heap.size (w1.heap.size + 1 + 1) (w1.heap.size + 1 + 1 + 1)) (fun pre W => ∃ (e : Nat) (ys : List Int), Boxed W w1.heap.size 23 (.slice (some ⟨w.heap.size + 1, 0, none⟩) N N) ∧ Boxed W (w1.heap.size + 1) 3 (.int .i64 (e : Int)) ∧ Boxed W w.heap.size 22 (.slice (some ⟨bb, off, none⟩) l.length cap) ∧
          W.ownsRow w.heap.size 3 1 (.slice (some ⟨w.heap.size + 1, 0, none⟩) N N) N (ints ys) ∧ Fill l (b : Int) pre e ys ∧ Below w.heap.size w W ∧ w1.heap.size + 4 ≤ W.heap.size) (pre ++ [k]) W Exit.normal { tmps := #[], defers := [] } W :=
        ⟨KeepsFrom.refl _ _, ⟨Below.refl _ _, rfl, rfl⟩, e, ys, i1, i2, i3, i4, hfl, i6, i7⟩
      have HF := Lib.hid hfin
      clear hfin i1 i2 i3 i4 i5 i6 hst1 hst2 hfl hu c2 c3 d3 hysl hy hyy hA hpost
      gi_wp2
      exact HF.out
  case done =>
    rintro D xs W hD rfl ⟨e, ys, i1, i2, i3, i4, i5, i6, i7⟩ hK
    have hys : ys = events l b := by
      have h9 := fill_end i5 hlen0
      rwa [eventsZ_nat] at h9
    have e1 := i1.cell
    have hbd : Below w.heap.size w (W.putObj D (.deferred none)) := i6.trans ⟨rfl, rfl, rfl, by simp [World.putObj], fun k hk => World.putObj_heap_other (by omega)⟩
    have hrd : IsInts (W.putObj D (.deferred none)) (.slice (some ⟨w.heap.size + 1, 0, none⟩) N N) (events l b) := by
      rw [← hys]
      exact IsInts.of_owns (ownsRow_putObj i4 (.deferred none) hK rfl)
    have HR := Lib.hid hrd
    have HB := Lib.hid hbd
    clear hrd hbd i1 i2 i3 i4 i5 i6 hys
    gi_wp2
    refine ⟨by simp, .inl ⟨_, _, rfl, run_takeDeferred hK, ?_⟩⟩
    exact ⟨_, results_tmp rfl _ _ _, .slice (some ⟨w.heap.size + 1, 0, none⟩) N N, rfl, HR.out, HB.out⟩

end Go.Proofs.Ytgfnelpfoegdaaa
