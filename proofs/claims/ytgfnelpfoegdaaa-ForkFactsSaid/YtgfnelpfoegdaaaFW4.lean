/-
  Contracts of the functions that go up the branches: upwards, Depth, Collect, AppendSeq, Ancestors.
-/
import Derived.Test.YtgfnelpfoegdaaaFW1
import Derived.Test.YtgfnelpfoegdaaaSeqT
import Derived.Shelf.RegionOpen
namespace Go.Proofs.Ytgfnelpfoegdaaa
open Go.RowKit Go.Shelf
attribute [local go_sem] Oper.semAt_some

def left (B : Nat) (w : World) : Nat := match w.cell? ⟨B, 0, none⟩ with | some (.int _ n) => (n + 1).toNat | _ => 0

/-- What a round over the branches keeps. -/
def KpUp (B Bl Bn : Nat) (W W' : World) : Prop := Below B W W' ∧ W'.heap[Bl]? = W.heap[Bl]? ∧ W'.heap[Bn]? = W.heap[Bn]?

set_option maxHeartbeats 1000000 in
set_option maxRecDepth 100000 in
theorem upwards_seq (n : Nat) (l : List Br) (v : Value) (b : Int) (Bl Bn : Nat) (w0 W0 : World) (hl : IsBrs w0 v l) (hBl : Boxed W0 Bl 22 v) (hBn : Boxed W0 Bn 3 (.int .i64 b)) (hB : Below w0.heap.size w0 W0)
    (hne : Bl ≠ Bn) (hBn0 : w0.heap.size ≤ Bn) (hdec : DecPar l b) :
    SeqT Fence.wide n Try.prog 65 #[.pointer (some ⟨Bl, 0, none⟩), .pointer (some ⟨Bn, 0, none⟩)] (fun (k : Nat) => #[.int .i64 k]) (KpUp w0.heap.size Bl Bn) (fun xs => xs = chainZ l b) Bn W0 := by
  intro lp J W hW hJ hY h0
  have hw1 : Fence.wide.depth.isSome = true → 1 ≤ n := fun h => absurd h (by simp [Fence.wide])
  have hBl1 : Boxed W Bl 22 v := hBl.kept hW (by simp)
  have hBn1 : Boxed W Bn 3 (.int .i64 b) := hBn.kept hW (by simp)
  have hB1 : Below w0.heap.size w0 W := hB.grown hW hB.size (fun k e => by cases e)
  obtain ⟨a, cap, hv, hlen, -, hc⟩ := hl.open
  subst hv
  have HC := Lib.hid hc; clear hc
  have HJ := Lib.hid hJ; clear hJ
  have HY := Lib.hid hY; clear hY
  have H0 := Lib.hid h0; clear h0
  have HB1 := Lib.hid hB1; clear hB1 hB
  unfold maxLen at hlen
  refine callsIn_of_wp Try.func65 rfl trivial ?_ rfl
  simp only [Try.ntmps65, List.size_toArray, List.length_cons, List.length_nil, Nat.reduceAdd, Nat.reduceSub, Array.replicate_succ, Array.replicate_zero, List.push_toArray, List.append_toArray, List.nil_append, List.cons_append]
  gi_wp2_with fail
  gi_loopw [4] (fun _ wr => ∃ (pre : List Nat) (cur : Int), Hid (J pre wr) ∧ Boxed wr Bn 3 (.int .i64 cur) ∧ Boxed wr Bl 22 (.slice a l.length cap) ∧ Hid (Below w0.heap.size w0 wr) ∧ Hid (pre ++ chainZ l cur = chainZ l b) ∧ cur ≤ b) (fun _ wr => left Bn wr)
  case atStart => exact ⟨[], b, H0, hBn1, hBl1, HB1, rfl, Int.le_refl _⟩
  case round =>
    obtain ⟨pre, cur, hJs, hbn, hbl, HBr, HE, hcb⟩ := hrel
    have e1 := hbn.cell
    have e2 := hbl.cell
    have e3 := hbn.frozen
    by_cases hin : 0 ≤ cur ∧ cur < l.length
    · obtain ⟨k, rfl⟩ := Int.eq_ofNat_of_zero_le hin.1
      have hk : k < l.length := by omega
      have hd : decide ((0 : Int) ≤ (k : Int) ∧ (k : Int) < (l.length : Int)) = true := by simp; omega
      obtain ⟨bb, off, u, ha, -, c0, -, -, -, -⟩ := HC.out k hk
      subst ha
      have hx := List.getElem?_eq_getElem hk
      obtain ⟨hp1, hp2⟩ := hdec k _ hcb hx
      have hch : Hid (chainZ l (k : Int) = k :: chainZ l l[k].parent) := by
        show _ = _
        rw [chainZ_nat, chain_some hx hp2]
      obtain ⟨fn, tmps, assign, body, hy, hR⟩ := HY.out pre k wr hJs.out ⟨_, by rw [← HE.out, hch.out]⟩
      have hblt : bb < w0.heap.size := World.block_lt_of_cell? _ _ c0
      have hml : left Bn wr = k + 1 := by unfold left; rw [e1]; simp
      have HML := Lib.hid hml
      clear hin hml hx
      generalize l[k].parent = par at *
      gi_wp2_with (refine ⟨trivial, hw1, ?_⟩; gi_at_call 54; refine (callsIn_wide.2 (has_any _ _ _ _ _)).mono ?_; rintro e w' ⟨rfl, rfl⟩)
      refine ⟨hw1, hR.mono ?_⟩
      clear e1 e2 e3
      rintro e W' ⟨rfl, hJ', hkk⟩
      have hbn' : Boxed W' Bn 3 (.int .i64 (k : Int)) := hkk.2.2.trans hbn
      have hbl' : Boxed W' Bl 22 (.slice (some ⟨bb, off, none⟩) l.length cap) := hkk.2.1.trans hbl
      have hB' : Below w0.heap.size w0 W' := HBr.out.trans hkk.1
      have c0' : W'.cell? ⟨bb, off + k * 5, none⟩ = some (.int .i64 par) := by rw [hB'.cell hblt]; exact c0
      have e1 := hbn'.cell
      have e2 := hbl'.cell
      have e3 := hbn'.frozen
      have HJ1 := Lib.hid (HJ.out _ _ _ hJ' (grownBy_setCell' W' Bn (.int .i64 par)))
      have HB2 := Lib.hid hB'
      have HS := Lib.hid (hbn'.set (.int .i64 par))
      have HS2 := Lib.hid (hbl'.other (B' := Bn) hne (.int .i64 par))
      clear hJ' hkk hB' hy hR c0
      gi_wp2
      go_roundw
      case rel =>
        refine ⟨pre ++ [k], par, HJ1, HS.out, HS2.out, Lib.hid (HB2.out.setCell (p := ⟨Bn, 0, none⟩) hBn0 _), ?_, by omega⟩
        have h1 := HE.out
        rw [hch.out] at h1
        show _ = _
        simpa using h1
      case measure =>
        rw [HML.out]
        unfold left
        rw [HS.out.cell]
        simp
        omega
    · have hd : decide ((0 : Int) ≤ cur ∧ cur < (l.length : Int)) = false := by simpa using hin
      have hch : Hid (chainZ l cur = []) := by
        show _ = _
        by_cases h0 : cur < 0
        · exact chainZ_neg h0
        · exact chainZ_big (by omega)
      clear hin
      gi_wp2_with (refine ⟨trivial, hw1, ?_⟩; gi_at_call 54; refine (callsIn_wide.2 (has_any _ _ _ _ _)).mono ?_; rintro e w' ⟨rfl, rfl⟩)
      go_end0
      refine ⟨⟨_, rfl⟩, pre, ?_, hJs.out⟩
      have h1 := HE.out
      rw [hch.out] at h1
      simpa using h1

theorem upwards_any (a : Option Addr) (n c : Nat) (b : Int) (w : World) :
    Calls Try.prog 55 #[.slice a n c, .int .i64 b] w fun e w' => e = .returned (.func (.func 65) #[] #[.pointer (some ⟨w.heap.size, 0, none⟩), .pointer (some ⟨w.heap.size + 1, 0, none⟩)]) ∧
      w' = (w.alloc (.cells #[.slice a n c] 22)).alloc (.cells #[.int .i64 b] 3) := by
  go_enter Try.func55, Try.ntmps55
  go_wp2
  go_ret
  exact ⟨rfl, rfl⟩

def depthZ (l : List Br) (b : Int) : Nat := (chainZ l b).length - 1

set_option maxHeartbeats 1000000 in
set_option maxRecDepth 100000 in
theorem forkDepth (l : List Br) (v : Value) (b : Int) (w : World) (hl : IsBrs w v l) (hdec : DecPar l b) (hlen : (chainZ l b).length ≤ 1000000) :
    Calls Try.prog 32 #[v, .int .i64 b] w fun e w' => e = .returned (.int .i64 (depthZ l b)) ∧ Below w.heap.size w w' := by
  obtain ⟨a, cap, hv, -, -, -⟩ := hl.open
  subst hv
  have HL := Lib.hid hl; clear hl
  have HD := Lib.hid hdec; clear hdec
  have hw1 : ∀ n, Fence.wide.depth.isSome = true → 1 ≤ n := fun n h => absurd h (by simp [Fence.wide])
  refine (callsIn_wide (n := 5)).1 ?_
  refine callsIn_of_wp_marks Try.func32 rfl trivial ?_ rfl
  simp only [Try.ntmps32, List.size_toArray, List.length_cons, List.length_nil, Nat.reduceAdd, Nat.reduceSub, Array.replicate_succ, Array.replicate_zero, List.push_toArray, List.append_toArray, List.nil_append, List.cons_append]
  gi_wp2_with (refine ⟨trivial, ?_⟩; gi_at_call 55; refine (callsIn_wide.2 (upwards_any _ _ _ _ _)).mono ?_; rintro e w' ⟨rfl, rfl⟩)
  have hbx : Boxed (((w.alloc (.cells #[.int .i64 (-1)] 3)).alloc (.cells #[.slice a l.length cap] 22)).alloc (.cells #[.int .i64 b] 3)) w.heap.size 3 (.int .i64 (-1)) := ((Boxed.new w _ _).alloc _).alloc _
  have hbl : Boxed (((w.alloc (.cells #[.int .i64 (-1)] 3)).alloc (.cells #[.slice a l.length cap] 22)).alloc (.cells #[.int .i64 b] 3)) (w.heap.size + 1) 22 (.slice a l.length cap) := by
    have := (Boxed.new (w.alloc (.cells #[.int .i64 (-1)] 3)) 22 (.slice a l.length cap)).alloc (.cells #[.int .i64 b] 3)
    rwa [World.size_alloc] at this
  have hbn : Boxed (((w.alloc (.cells #[.int .i64 (-1)] 3)).alloc (.cells #[.slice a l.length cap] 22)).alloc (.cells #[.int .i64 b] 3)) (w.heap.size + 1 + 1) 3 (.int .i64 b) := by
    have := Boxed.new ((w.alloc (.cells #[.int .i64 (-1)] 3)).alloc (.cells #[.slice a l.length cap] 22)) 3 (.int .i64 b)
    rwa [World.size_alloc, World.size_alloc] at this
  have hbe : Below w.heap.size w (((w.alloc (.cells #[.int .i64 (-1)] 3)).alloc (.cells #[.slice a l.length cap] 22)).alloc (.cells #[.int .i64 b] 3)) := (((Below.refl _ _).alloc (Nat.le_refl _) _).alloc (by simp) _).alloc (by simp; omega) _
  have hsz : (((w.alloc (.cells #[.int .i64 (-1)] 3)).alloc (.cells #[.slice a l.length cap] 22)).alloc (.cells #[.int .i64 b] 3)).heap.size = w.heap.size + 3 := by simp
  generalize ((w.alloc (.cells #[.int .i64 (-1)] 3)).alloc (.cells #[.slice a l.length cap] 22)).alloc (.cells #[.int .i64 b] 3) = W0 at *
  refine wpIn_rangeFunc_T rfl (by omega) (gf := 65) (lb := #[.pointer (some ⟨w.heap.size + 1, 0, none⟩), .pointer (some ⟨w.heap.size + 1 + 1, 0, none⟩)]) rfl trivial (enters_of Try.func65 (by kernel_rfl) rfl)
    (upwards_seq _ l _ b _ _ w W0 HL.out hbl hbn hbe (by omega) (by omega) HD.out) (by omega) ?kt ?kb (fun _ => rfl)
    (fun pre W => Boxed W w.heap.size 3 (.int .i64 ((pre.length : Int) - 1)) ∧ Below w.heap.size w W) ?hI ⟨by simpa using hbx, hbe⟩
    (fun x => { tmps := #[.slice a l.length cap, .int .i64 b, undef, undef, .int .i64 0, .pointer (some ⟨w.heap.size, 0, none⟩), .slice a l.length cap, .int .i64 b, .func (.func 65) #[] #[.pointer (some ⟨w.heap.size + 1, 0, none⟩), .pointer (some ⟨w.heap.size + 1 + 1, 0, none⟩)], .int .i64 x, undef, undef, undef, undef], defers := [] }) ?assign ?body ?done
  case kt => exact fun h k => ⟨h.1.trans k.1, k.2.1.trans h.2.1, k.2.2.trans h.2.2⟩
  case kb => exact fun W l o hl => ⟨⟨rfl, rfl, rfl, by simp [World.putObj], fun k hk => World.putObj_heap_other (by omega)⟩, World.putObj_heap_other (by omega), World.putObj_heap_other (by omega)⟩
  case hI => exact fun s X Y row hs hg hr => ⟨hs.1.kept hg (fun e => by rcases hr _ e.symm with h | ⟨h, -⟩ <;> omega), hs.2.grown hg (by have := hs.2.size; omega) (fun k e => by rcases hr _ e with h | ⟨h, -⟩ <;> omega)⟩
  case assign =>
    intro lp x W K hK
    gi_wp2
    simpa using hK
  case body =>
    rintro lp pre x W hlp ⟨hbo, hbW⟩ ⟨post, hpost⟩
    have hpl : (pre.length : Int) + 1 ≤ 1000000 := by
      have := congrArg List.length hpost
      simp at this
      omega
    have e1 := hbo.cell
    have e2 := hbo.frozen
    have hkb := hbo.set (.int .i64 (pre.length : Int))
    have HS := Lib.hid hkb; clear hkb
    have HB := Lib.hid hbW; clear hbW
    gi_wp2
    refine ⟨(KeepsOthers.setCell _ _ _).from _, ⟨(Below.refl w.heap.size W).setCell (p := ⟨w.heap.size, 0, none⟩) (Nat.le_refl _) _, Below.heap_setCell _ _ _ _ (by simp), Below.heap_setCell _ _ _ _ (by show _ ≠ w.heap.size; omega)⟩, ?_, HB.out.setCell (p := ⟨w.heap.size, 0, none⟩) (Nat.le_refl _) _⟩
    have h1 := HS.out
    rw [show (((pre ++ [x]).length : Nat) : Int) - 1 = (pre.length : Int) from by simp]
    exact h1
  case done =>
    rintro D ys W hD rfl ⟨hbo, hbW⟩ hK
    have e1 := hbo.cell
    have hbd : Below w.heap.size w (W.putObj D (.deferred none)) := hbW.trans ⟨rfl, rfl, rfl, by simp [World.putObj], fun k hk => World.putObj_heap_other (by omega)⟩
    gi_wp2
    all_goals
      refine ⟨by simp, .inl ⟨_, _, rfl, run_takeDeferred hK, ?_⟩⟩
      refine ⟨_, results_tmp rfl _ _ _, ?_, hbd⟩
      show Ending.returned (.int .i64 (_ : Int)) = _
      exact ret_int (by unfold depthZ; omega)

def natInts (xs : List Nat) : List Int := xs.map (fun k : Nat => (k : Int))

theorem ints_append (xs ys : List Int) : ints (xs ++ ys) = ints xs ++ ints ys := by simp [ints]
theorem ints_len (xs : List Int) : (ints xs).length = xs.length := by simp [ints]

set_option maxHeartbeats 1000000 in
set_option maxRecDepth 100000 in
theorem appendSeq_up (l : List Br) (v : Value) (b : Int) (Bl Bn : Nat) (w0 w : World) (hl : IsBrs w0 v l) (hBl : Boxed w Bl 22 v) (hBn : Boxed w Bn 3 (.int .i64 b)) (hB : Below w0.heap.size w0 w)
    (hne : Bl ≠ Bn) (hBl0 : w0.heap.size ≤ Bl) (hBn0 : w0.heap.size ≤ Bn) (hdec : DecPar l b) (hlen : (chainZ l b).length ≤ 1000000) :
    Calls Try.prog 66 #[.slice none 0 0, .func (.func 65) #[] #[.pointer (some ⟨Bl, 0, none⟩), .pointer (some ⟨Bn, 0, none⟩)]] w fun e w' =>
      ∃ v', e = .returned v' ∧ IsInts w' v' (natInts (chainZ l b)) ∧ Below w0.heap.size w0 w' := by
  have HL := Lib.hid hl; clear hl
  have HD := Lib.hid hdec; clear hdec
  have hltl := hBl.lt
  have hltn := hBn.lt
  refine (callsIn_wide (n := 5)).1 ?_
  refine callsIn_of_wp_marks Try.func66 rfl trivial ?_ rfl
  simp only [Try.ntmps66, List.size_toArray, List.length_cons, List.length_nil, Nat.reduceAdd, Nat.reduceSub, Array.replicate_succ, Array.replicate_zero, List.push_toArray, List.append_toArray, List.nil_append, List.cons_append]
  gi_wp2_with fail
  have hbs : Boxed (w.alloc (.cells #[.slice none 0 0] 23)) w.heap.size 23 (.slice none 0 0) := Boxed.new w _ _
  have hbl := hBl.alloc (.cells #[.slice none 0 0] 23)
  have hbn := hBn.alloc (.cells #[.slice none 0 0] 23)
  have hbe : Below w.heap.size w (w.alloc (.cells #[.slice none 0 0] 23)) := (Below.refl _ _).alloc (Nat.le_refl _) _
  have hsz : (w.alloc (.cells #[.slice none 0 0] 23)).heap.size = w.heap.size + 1 := by simp
  generalize w.alloc (.cells #[.slice none 0 0] 23) = W0 at *
  have hB0 := Below.to hB hbe hB.size
  refine wpIn_rangeFunc_T rfl (by omega) (gf := 65) (lb := #[.pointer (some ⟨Bl, 0, none⟩), .pointer (some ⟨Bn, 0, none⟩)]) rfl trivial (enters_of Try.func65 (by kernel_rfl) rfl)
    (upwards_seq _ l v b _ _ w0 W0 HL.out hbl hbn hB0 hne hBn0 HD.out) (by omega) ?kt ?kb (fun _ => rfl)
    (fun pre W => ∃ u, Boxed W w.heap.size 23 u ∧ W.ownsRow w.heap.size 3 1 u pre.length (ints (natInts pre)) ∧ Below w0.heap.size w0 W ∧ w.heap.size < W.heap.size) ?hI ⟨_, hbs, World.ownsRow_nil _ _ _ _, hB0, by omega⟩
    (fun x => { tmps := #[.slice none 0 0, .func (.func 65) #[] #[.pointer (some ⟨Bl, 0, none⟩), .pointer (some ⟨Bn, 0, none⟩)], .pointer (some ⟨w.heap.size, 0, none⟩), undef, .slice none 0 0, .int .i64 x, .func (.func 65) #[] #[.pointer (some ⟨Bl, 0, none⟩), .pointer (some ⟨Bn, 0, none⟩)], .int .i64 x, undef, undef, undef, undef, undef], defers := [] }) ?assign ?body ?done
  case kt => exact fun h k => ⟨h.1.trans k.1, k.2.1.trans h.2.1, k.2.2.trans h.2.2⟩
  case kb => exact fun W l o hl => ⟨⟨rfl, rfl, rfl, by simp [World.putObj], fun k hk => World.putObj_heap_other (by have := hB0.size; omega)⟩, World.putObj_heap_other (by omega), World.putObj_heap_other (by omega)⟩
  case hI =>
    rintro s X Y row ⟨u, k1, k2, k3, k4⟩ hg hr
    refine ⟨u, k1.kept hg (fun e => by rcases hr _ e.symm with h | ⟨h, -⟩ <;> omega), k2.kept hg ?_, k3.grown hg k3.size (fun k e => by have := hB.size; have := hB0.size; rcases hr _ e with h | ⟨h, -⟩ <;> omega), by have := hg.size; omega⟩
    cases hu : u.ownBlock with
    | none => exact .inl rfl
    | some r =>
      right
      intro e
      rcases hr r e.symm with h | ⟨h, o, ho, hoc⟩
      · have := (k2.lt r hu).1
        omega
      · rcases k2.2 with ⟨rfl, _⟩ | ⟨g, cap, cur, rfl, _, hgg, _⟩
        · simp [Value.ownBlock] at hu
        · simp [Value.ownBlock] at hu
          subst hu
          rw [hgg] at ho
          cases ho
          cases hoc
  case assign =>
    intro lp x W K hK
    gi_wp2
    simpa using hK
  case body =>
    rintro lp pre x W hlp ⟨u, hbo, hrow, hbW, hsW⟩ ⟨post, hpost⟩
    have hpl : pre.length + 1 ≤ 1000000 := by
      have := congrArg List.length hpost
      simp at this
      omega
    have e1 := hbo.cell
    have e2 := hbo.frozen
    have HBO := Lib.hid hbo; clear hbo
    have HROW := Lib.hid hrow; clear hrow
    have HBW := Lib.hid hbW; clear hbW
    have hsrc : Hid (Rd (W.alloc (.cells #[.int .i64 (x : Int)] 3)) (.slice (some ⟨W.heap.size, 0, none⟩) 1 1) 1 1 [.int .i64 (x : Int)]) := Rd.lit W #[.int .i64 (x : Int)] 3 1 1 rfl (by unfold maxLen; omega)
    gi_wp2_with (gi_at_builtin; go_must (refine wpListIn_append_rd rfl _ _ 23 rfl w.heap.size 3 _ 1 8 Try.underlying23 infoInt rfl (by decide) u pre.length (ints (natInts pre)) rfl (HROW.out.alloc _) _ 1 [.int .i64 (x : Int)] rfl hsrc.out (by intro c hc; simp at hc; subst hc; rfl) ?b1 ?b2 ?b3 ?_))
    case b1 => unfold maxLen; omega
    case b2 => omega
    case b3 => simp; omega
    intro v' W1 hrow1 hg1
    have hboA := HBO.out.alloc (.cells #[.int .i64 (x : Int)] 3)
    have hrowA := HROW.out.alloc (.cells #[.int .i64 (x : Int)] 3)
    have hb1 : Boxed W1 w.heap.size 23 u := hboA.kept hg1 (hboA.not_row (by decide) hrowA)
    have hbW1 : Below w0.heap.size w0 W1 := ((HBW.out.alloc HBW.out.size _).grown hg1 (by have := HBW.out.size; simp; omega) (fun k e => by have := (HROW.out.lt k e).1; have := hB.size; omega))
    have hbr : Below w.heap.size W W1 := ((Below.refl _ W).alloc (by omega) _).grown hg1 (by simp; omega) (fun k e => (HROW.out.lt k e).1)
    obtain ⟨va, vc, rfl, -, -⟩ := owns_slice hrow1
    have e3 := hb1.cell
    have e4 := hb1.frozen
    have hb2 := hb1.set (.slice va (pre.length + 1) vc)
    have hrow2 : (W1.setCell ⟨w.heap.size, 0, none⟩ (.slice va (pre.length + 1) vc)).ownsRow w.heap.size 3 1 (.slice va (pre.length + 1) vc) (pre ++ [x]).length (ints (natInts (pre ++ [x]))) := by
      have h9 := hrow1.kept (grownBy_setCell' W1 w.heap.size (.slice va (pre.length + 1) vc)) (by
        rcases (hb1.not_row (t := 23) (e := 3) (by decide) hrow1) with h
        exact .inr (fun e => h e.symm))
      simpa [natInts, ints] using h9
    have hs2 := hg1.size
    have hfin : postT W0.heap.size (KpUp w0.heap.size Bl Bn) (fun pre W => ∃ u, Boxed W w.heap.size 23 u ∧ W.ownsRow w.heap.size 3 1 u pre.length (ints (natInts pre)) ∧ Below w0.heap.size w0 W ∧ w.heap.size < W.heap.size) (pre ++ [x]) W Exit.normal { tmps := #[], defers := [] } (W1.setCell ⟨w.heap.size, 0, none⟩ (.slice va (pre.length + 1) vc)) := by
      refine ⟨?_, ?_, _, hb2, hrow2, hbW1.setCell (p := ⟨w.heap.size, 0, none⟩) hB.size _, by simp at hs2 ⊢; omega⟩
      · refine ((KeepsOthers.alloc _ _).trans (KeepsOthers.trans (KeepsOthers.of_grownBy hg1 ?_) (KeepsOthers.setCell _ _ _))).from _
        intro j o hj ho
        rcases (HROW.out.alloc (.cells #[.int .i64 (x : Int)] 3)).2 with ⟨rfl, _⟩ | ⟨g, cap, cur, rfl, _, hgg, _⟩
        · simp [Value.ownBlock] at hj
        · simp [Value.ownBlock] at hj
          subst hj
          rw [hgg] at ho
          cases ho
          rfl
      · have hb9 := hbr.setCell (p := ⟨w.heap.size, 0, none⟩) (Nat.le_refl _) (.slice va (pre.length + 1) vc)
        exact ⟨hb9.mono hB.size, hb9.block _ hltl, hb9.block _ hltn⟩
    have HF := Lib.hid hfin
    clear hfin hrow2 hb2 hb1 hbW1 hbr hrow1 hg1
    gi_wp2
    exact HF.out
  case done =>
    rintro D ys W hD rfl ⟨u, hbo, hrow, hbW, hsW⟩ hK
    obtain ⟨ua, uc, rfl, -, -⟩ := owns_slice hrow
    have e1 := hbo.cell
    have hbd : Below w0.heap.size w0 (W.putObj D (.deferred none)) := hbW.trans ⟨rfl, rfl, rfl, by simp [World.putObj], fun k hk => World.putObj_heap_other (by have := hB.size; omega)⟩
    have hrd : IsInts (W.putObj D (.deferred none)) (.slice ua (chainZ l b).length uc) (natInts (chainZ l b)) := by
      refine IsInts.of_owns (ownsRow_putObj hrow (.deferred none) hK rfl)
    have HR := Lib.hid hrd
    have HB := Lib.hid hbd
    clear hrd hbd hrow hbW
    gi_wp2
    refine ⟨by simp, .inl ⟨_, _, rfl, run_takeDeferred hK, ?_⟩⟩
    exact ⟨_, results_tmp rfl _ _ _, .slice ua (chainZ l b).length uc, rfl, HR.out, HB.out⟩

theorem forkAncestors (l : List Br) (v : Value) (b : Int) (w : World) (hl : IsBrs w v l) (hdec : DecPar l b) (hlen : (chainZ l b).length ≤ 1000000) :
    Calls Try.prog 30 #[v, .int .i64 b] w fun e w' => ∃ v', e = .returned v' ∧ IsInts w' v' (natInts (chainZ l b)) ∧ Below w.heap.size w w' := by
  obtain ⟨a, cap, hv, -, -, -⟩ := hl.open
  subst hv
  have HL := Lib.hid hl; clear hl
  have HD := Lib.hid hdec; clear hdec
  have hbl : Boxed ((w.alloc (.cells #[.slice a l.length cap] 22)).alloc (.cells #[.int .i64 b] 3)) w.heap.size 22 (.slice a l.length cap) := (Boxed.new w _ _).alloc _
  have hbn : Boxed ((w.alloc (.cells #[.slice a l.length cap] 22)).alloc (.cells #[.int .i64 b] 3)) (w.heap.size + 1) 3 (.int .i64 b) := by
    have := Boxed.new (w.alloc (.cells #[.slice a l.length cap] 22)) 3 (.int .i64 b)
    rwa [World.size_alloc] at this
  have hbe : Below w.heap.size w ((w.alloc (.cells #[.slice a l.length cap] 22)).alloc (.cells #[.int .i64 b] 3)) := ((Below.refl _ _).alloc (Nat.le_refl _) _).alloc (by simp) _
  have HB1 := Lib.hid hbl; clear hbl
  have HB2 := Lib.hid hbn; clear hbn
  have HB3 := Lib.hid hbe; clear hbe
  go_enter Try.func30, Try.ntmps30
  go_wp2_with (go_at_call 55; refine (upwards_any _ _ _ _ _).mono ?_; rintro e w' ⟨rfl, rfl⟩)
  refine Calls.mono (R := fun e w' => ∃ v', e = .returned v' ∧ IsInts w' v' (natInts (chainZ l b)) ∧ Below w.heap.size w w') ?_ ?_
  · go_enter Try.func56, Try.ntmps56
    go_wp2_with (go_at_call 66; refine (appendSeq_up l _ b _ _ w _ HL.out HB1.out HB2.out HB3.out (by omega) (Nat.le_refl _) (by omega) HD.out hlen).mono ?_; rintro e w' ⟨v', rfl, hv', hb'⟩)
    go_ret
    exact ⟨_, rfl, hv', hb'⟩
  · rintro e w' ⟨v', rfl, hv', hb'⟩
    go_wp2
    go_ret
    exact ⟨_, rfl, hv', hb'⟩

end Go.Proofs.Ytgfnelpfoegdaaa
