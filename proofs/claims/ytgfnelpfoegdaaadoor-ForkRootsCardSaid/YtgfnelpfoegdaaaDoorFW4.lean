
/-
  Contracts of the functions that go up the branches: upwards, Depth, Collect, AppendSeq, Ancestors.
-/
import Derived.Test.YtgfnelpfoegdaaaDoorFW1
import Derived.Test.YtgfnelpfoegdaaaDoorSeqT
import Derived.Shelf.RegionOpen
namespace Go.Proofs.YtgfnelpfoegdaaaDoor
open Go.RowKit Go.Shelf
attribute [local go_sem] Oper.semAt_some

def left (B : Nat) (w : World) : Nat := match w.cell? ⟨B, 0, none⟩ with | some (.int _ n) => (n + 1).toNat | _ => 0

/-- What a round over the branches keeps. -/
def KpUp (B Bl Bn : Nat) (W W' : World) : Prop := Below B W W' ∧ W'.heap[Bl]? = W.heap[Bl]? ∧ W'.heap[Bn]? = W.heap[Bn]?

set_option maxHeartbeats 1000000 in
set_option maxRecDepth 100000 in
theorem upwards_seq (n : Nat) (l : List Br) (v : Value) (b : Int) (Bl Bn : Nat) (w0 W0 : World) (hl : IsBrs w0 v l) (hBl : Boxed W0 Bl 23 v) (hBn : Boxed W0 Bn 3 (.int .i64 b)) (hB : Below w0.heap.size w0 W0)
    (hne : Bl ≠ Bn) (hBn0 : w0.heap.size ≤ Bn) (hdec : DecPar l b) :
    SeqT Fence.wide n Tryd.prog 55 #[.pointer (some ⟨Bl, 0, none⟩), .pointer (some ⟨Bn, 0, none⟩)] (fun (k : Nat) => #[.int .i64 k]) (KpUp w0.heap.size Bl Bn) (fun xs => xs = chainZ l b) Bn W0 := by
  intro lp J W hW hJ hY h0
  have hw1 : Fence.wide.depth.isSome = true → 1 ≤ n := fun h => absurd h (by simp [Fence.wide])
  have hBl1 : Boxed W Bl 23 v := hBl.kept hW (by simp)
  have hBn1 : Boxed W Bn 3 (.int .i64 b) := hBn.kept hW (by simp)
  have hB1 : Below w0.heap.size w0 W := hB.grown hW hB.size (fun k e => by cases e)
  obtain ⟨a, cap, hv, hlen, -, hc⟩ := hl.open
  subst hv
  have HC := Lib.hid hc; clear hc
  have HJ := Lib.hid hJ; clear hJ
  have HY := Lib.hid hY; clear hY
  have H0 := Lib.hid h0; clear h0
  have HB1 := Lib.hid hB1; clear hB1 hB
  unfold maxLen at hlen
  refine callsIn_of_wp Tryd.func55 rfl trivial ?_ rfl
  simp only [Tryd.ntmps55, List.size_toArray, List.length_cons, List.length_nil, Nat.reduceAdd, Nat.reduceSub, Array.replicate_succ, Array.replicate_zero, List.push_toArray, List.append_toArray, List.nil_append, List.cons_append]
  gi_wp2_with fail
  gi_loopw [4] (fun _ wr => ∃ (pre : List Nat) (cur : Int), Hid (J pre wr) ∧ Boxed wr Bn 3 (.int .i64 cur) ∧ Boxed wr Bl 23 (.slice a l.length cap) ∧ Hid (Below w0.heap.size w0 wr) ∧ Hid (pre ++ chainZ l cur = chainZ l b) ∧ cur ≤ b) (fun _ wr => left Bn wr)
  case atStart => exact ⟨[], b, H0, hBn1, hBl1, HB1, rfl, Int.le_refl _⟩
  case round =>
    obtain ⟨pre, cur, hJs, hbn, hbl, HBr, HE, hcb⟩ := hrel
    have e1 := hbn.cell
    have e2 := hbl.cell
    have e3 := hbn.frozen
    by_cases hin : 0 ≤ cur ∧ cur < l.length
    · obtain ⟨k, rfl⟩ := Int.eq_ofNat_of_zero_le hin.1
      have hk : k < l.length := by omega
      have hd : decide ((0 : Int) ≤ (k : Int) ∧ (k : Int) < (l.length : Int)) = true := by simp; omega
      obtain ⟨bb, off, u, ha, -, c0, -, -, -, -⟩ := HC.out k hk
      subst ha
      have hx := List.getElem?_eq_getElem hk
      obtain ⟨hp1, hp2⟩ := hdec k _ hcb hx
      have hch : Hid (chainZ l (k : Int) = k :: chainZ l l[k].parent) := by
        show _ = _
        rw [chainZ_nat, chain_some hx hp2]
      obtain ⟨fn, tmps, assign, body, hy, hR⟩ := HY.out pre k wr hJs.out ⟨_, by rw [← HE.out, hch.out]⟩
      have hblt : bb < w0.heap.size := World.block_lt_of_cell? _ _ c0
      have hml : left Bn wr = k + 1 := by unfold left; rw [e1]; simp
      have HML := Lib.hid hml
      clear hin hml hx
      generalize l[k].parent = par at *
      gi_wp2_with (refine ⟨trivial, hw1, ?_⟩; gi_at_call 28; refine (callsIn_wide.2 (has_any _ _ _ _ _)).mono ?_; rintro e w' ⟨rfl, rfl⟩)
      refine ⟨hw1, hR.mono ?_⟩
      clear e1 e2 e3
      rintro e W' ⟨rfl, hJ', hkk⟩
      have hbn' : Boxed W' Bn 3 (.int .i64 (k : Int)) := hkk.2.2.trans hbn
      have hbl' : Boxed W' Bl 23 (.slice (some ⟨bb, off, none⟩) l.length cap) := hkk.2.1.trans hbl
      have hB' : Below w0.heap.size w0 W' := HBr.out.trans hkk.1
      have c0' : W'.cell? ⟨bb, off + k * 5, none⟩ = some (.int .i64 par) := by rw [hB'.cell hblt]; exact c0
      have e1 := hbn'.cell
      have e2 := hbl'.cell
      have e3 := hbn'.frozen
      have HJ1 := Lib.hid (HJ.out _ _ _ hJ' (grownBy_setCell' W' Bn (.int .i64 par)))
      have HB2 := Lib.hid hB'
      have HS := Lib.hid (hbn'.set (.int .i64 par))
      have HS2 := Lib.hid (hbl'.other (B' := Bn) hne (.int .i64 par))
      clear hJ' hkk hB' hy hR c0
      gi_wp2
      go_roundw
      case rel =>
        refine ⟨pre ++ [k], par, HJ1, HS.out, HS2.out, Lib.hid (HB2.out.setCell (p := ⟨Bn, 0, none⟩) hBn0 _), ?_, by omega⟩
        have h1 := HE.out
        rw [hch.out] at h1
        show _ = _
        simpa using h1
      case measure =>
        rw [HML.out]
        unfold left
        rw [HS.out.cell]
        simp
        omega
    · have hd : decide ((0 : Int) ≤ cur ∧ cur < (l.length : Int)) = false := by simpa using hin
      have hch : Hid (chainZ l cur = []) := by
        show _ = _
        by_cases h0 : cur < 0
        · exact chainZ_neg h0
        · exact chainZ_big (by omega)
      clear hin
      gi_wp2_with (refine ⟨trivial, hw1, ?_⟩; gi_at_call 28; refine (callsIn_wide.2 (has_any _ _ _ _ _)).mono ?_; rintro e w' ⟨rfl, rfl⟩)
      go_end0
      refine ⟨⟨_, rfl⟩, pre, ?_, hJs.out⟩
      have h1 := HE.out
      rw [hch.out] at h1
      simpa using h1

theorem upwards_any (a : Option Addr) (n c : Nat) (b : Int) (w : World) :
    Calls Tryd.prog 30 #[.slice a n c, .int .i64 b] w fun e w' => e = .returned (.func (.func 55) #[] #[.pointer (some ⟨w.heap.size, 0, none⟩), .pointer (some ⟨w.heap.size + 1, 0, none⟩)]) ∧
      w' = (w.alloc (.cells #[.slice a n c] 23)).alloc (.cells #[.int .i64 b] 3) := by
  go_enter Tryd.func30, Tryd.ntmps30
  go_wp2
  go_ret
  exact ⟨rfl, rfl⟩

def depthZ (l : List Br) (b : Int) : Nat := (chainZ l b).length - 1

set_option maxHeartbeats 1000000 in
set_option maxRecDepth 100000 in
theorem forkDepth (l : List Br) (v : Value) (b : Int) (w : World) (hl : IsBrs w v l) (hdec : DecPar l b) (hlen : (chainZ l b).length ≤ 1000000) :
    Calls Tryd.prog 24 #[v, .int .i64 b] w fun e w' => e = .returned (.int .i64 (depthZ l b)) ∧ Below w.heap.size w w' := by
  obtain ⟨a, cap, hv, -, -, -⟩ := hl.open
  subst hv
  have HL := Lib.hid hl; clear hl
  have HD := Lib.hid hdec; clear hdec
  have hw1 : ∀ n, Fence.wide.depth.isSome = true → 1 ≤ n := fun n h => absurd h (by simp [Fence.wide])
  refine (callsIn_wide (n := 5)).1 ?_
  refine callsIn_of_wp_marks Tryd.func24 rfl trivial ?_ rfl
  simp only [Tryd.ntmps24, List.size_toArray, List.length_cons, List.length_nil, Nat.reduceAdd, Nat.reduceSub, Array.replicate_succ, Array.replicate_zero, List.push_toArray, List.append_toArray, List.nil_append, List.cons_append]
  gi_wp2_with (refine ⟨trivial, ?_⟩; gi_at_call 30; refine (callsIn_wide.2 (upwards_any _ _ _ _ _)).mono ?_; rintro e w' ⟨rfl, rfl⟩)
  have hbx : Boxed (((w.alloc (.cells #[.int .i64 (-1)] 3)).alloc (.cells #[.slice a l.length cap] 23)).alloc (.cells #[.int .i64 b] 3)) w.heap.size 3 (.int .i64 (-1)) := ((Boxed.new w _ _).alloc _).alloc _
  have hbl : Boxed (((w.alloc (.cells #[.int .i64 (-1)] 3)).alloc (.cells #[.slice a l.length cap] 23)).alloc (.cells #[.int .i64 b] 3)) (w.heap.size + 1) 23 (.slice a l.length cap) := by
    have := (Boxed.new (w.alloc (.cells #[.int .i64 (-1)] 3)) 23 (.slice a l.length cap)).alloc (.cells #[.int .i64 b] 3)
    rwa [World.size_alloc] at this
  have hbn : Boxed (((w.alloc (.cells #[.int .i64 (-1)] 3)).alloc (.cells #[.slice a l.length cap] 23)).alloc (.cells #[.int .i64 b] 3)) (w.heap.size + 1 + 1) 3 (.int .i64 b) := by
    have := Boxed.new ((w.alloc (.cells #[.int .i64 (-1)] 3)).alloc (.cells #[.slice a l.length cap] 23)) 3 (.int .i64 b)
    rwa [World.size_alloc, World.size_alloc] at this
  have hbe : Below w.heap.size w (((w.alloc (.cells #[.int .i64 (-1)] 3)).alloc (.cells #[.slice a l.length cap] 23)).alloc (.cells #[.int .i64 b] 3)) := (((Below.refl _ _).alloc (Nat.le_refl _) _).alloc (by simp) _).alloc (by simp; omega) _
  have hsz : (((w.alloc (.cells #[.int .i64 (-1)] 3)).alloc (.cells #[.slice a l.length cap] 23)).alloc (.cells #[.int .i64 b] 3)).heap.size = w.heap.size + 3 := by simp
  generalize ((w.alloc (.cells #[.int .i64 (-1)] 3)).alloc (.cells #[.slice a l.length cap] 23)).alloc (.cells #[.int .i64 b] 3) = W0 at *
  refine wpIn_rangeFunc_T rfl (by omega) (gf := 55) (lb := #[.pointer (some ⟨w.heap.size + 1, 0, none⟩), .pointer (some ⟨w.heap.size + 1 + 1, 0, none⟩)]) rfl trivial (enters_of Tryd.func55 (by kernel_rfl) rfl)
    (upwards_seq _ l _ b _ _ w W0 HL.out hbl hbn hbe (by omega) (by omega) HD.out) (by omega) ?kt ?kb (fun _ => rfl)
    (fun pre W => Boxed W w.heap.size 3 (.int .i64 ((pre.length : Int) - 1)) ∧ Below w.heap.size w W) ?hI ⟨by simpa using hbx, hbe⟩
    (fun x => { tmps := #[.slice a l.length cap, .int .i64 b, undef, undef, .int .i64 0, .pointer (some ⟨w.heap.size, 0, none⟩), .slice a l.length cap, .int .i64 b, .func (.func 55) #[] #[.pointer (some ⟨w.heap.size + 1, 0, none⟩), .pointer (some ⟨w.heap.size + 1 + 1, 0, none⟩)], .int .i64 x, undef, undef, undef, undef], defers := [] }) ?assign ?body ?done
  case kt => exact fun h k => ⟨h.1.trans k.1, k.2.1.trans h.2.1, k.2.2.trans h.2.2⟩
  case kb => exact fun W l o hl => ⟨⟨rfl, rfl, rfl, by simp [World.putObj], fun k hk => World.putObj_heap_other (by omega)⟩, World.putObj_heap_other (by omega), World.putObj_heap_other (by omega)⟩
  case hI => exact fun s X Y row hs hg hr => ⟨hs.1.kept hg (fun e => by rcases hr _ e.symm with h | ⟨h, -⟩ <;> omega), hs.2.grown hg (by have := hs.2.size; omega) (fun k e => by rcases hr _ e with h | ⟨h, -⟩ <;> omega)⟩
  case assign =>
    intro lp x W K hK
    gi_wp2
    simpa using hK
  case body =>
    rintro lp pre x W hlp ⟨hbo, hbW⟩ ⟨post, hpost⟩
    have hpl : (pre.length : Int) + 1 ≤ 1000000 := by
      have := congrArg List.length hpost
      simp at this
      omega
    have e1 := hbo.cell
    have e2 := hbo.frozen
    have hkb := hbo.set (.int .i64 (pre.length : Int))
    have HS := Lib.hid hkb; clear hkb
    have HB := Lib.hid hbW; clear hbW
    gi_wp2
    refine ⟨(KeepsOthers.setCell _ _ _).from _, ⟨(Below.refl w.heap.size W).setCell (p := ⟨w.heap.size, 0, none⟩) (Nat.le_refl _) _, Below.heap_setCell _ _ _ _ (by simp), Below.heap_setCell _ _ _ _ (by show _ ≠ w.heap.size; omega)⟩, ?_, HB.out.setCell (p := ⟨w.heap.size, 0, none⟩) (Nat.le_refl _) _⟩
    have h1 := HS.out
    rw [show (((pre ++ [x]).length : Nat) : Int) - 1 = (pre.length : Int) from by simp]
    exact h1
  case done =>
    rintro D ys W hD rfl ⟨hbo, hbW⟩ hK
    have e1 := hbo.cell
    have hbd : Below w.heap.size w (W.putObj D (.deferred none)) := hbW.trans ⟨rfl, rfl, rfl, by simp [World.putObj], fun k hk => World.putObj_heap_other (by omega)⟩
    gi_wp2
    all_goals
      refine ⟨by simp, .inl ⟨_, _, rfl, run_takeDeferred hK, ?_⟩⟩
      refine ⟨_, results_tmp rfl _ _ _, ?_, hbd⟩
      show Ending.returned (.int .i64 (_ : Int)) = _
      exact ret_int (by unfold depthZ; omega)

def natInts (xs : List Nat) : List Int := xs.map (fun k : Nat => (k : Int))

theorem ints_append (xs ys : List Int) : ints (xs ++ ys) = ints xs ++ ints ys := by simp [ints]
theorem ints_len (xs : List Int) : (ints xs).length = xs.length := by simp [ints]

end Go.Proofs.YtgfnelpfoegdaaaDoor
