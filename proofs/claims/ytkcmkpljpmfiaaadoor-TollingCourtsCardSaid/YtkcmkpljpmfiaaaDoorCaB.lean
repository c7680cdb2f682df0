/-
  Package calendar: shut, days and their closures (the iterator over days).
-/
import Derived.Test.YtkcmkpljpmfiaaaDoorCaA
import Derived.Test.YtkcmkpljpmfiaaaDoorSeqV
import Derived.Shelf.RegionOpen
namespace Go.Proofs.YtkcmkpljpmfiaaaDoor
open Go.RowKit Go.Shelf
attribute [local go_sem] Oper.semAt_some

/-- So many days from one on. -/
def upL (d : Int) (k : Nat) : List Int := (List.range k).map fun i : Nat => d + (i : Int)
theorem upL_succ (d : Int) (k : Nat) : upL d (k + 1) = upL d k ++ [d + (k : Int)] := by unfold upL; rw [List.range_succ, List.map_append]; rfl
theorem upL_len (d : Int) (k : Nat) : (upL d k).length = k := by simp [upL]
theorem upL_split (d : Int) : ∀ m k, k < m → ∃ post, upL d k ++ (d + (k : Int)) :: post = upL d m
  | 0, k, h => by omega
  | m + 1, k, h => by
    by_cases hk : k = m
    · subst hk; exact ⟨[], (upL_succ d k).symm⟩
    · obtain ⟨post, hp⟩ := upL_split d m k (by omega)
      exact ⟨post ++ [d + (m : Int)], by rw [upL_succ, ← hp]; simp⟩

def KpDay (Bd Bs : Nat) (W W' : World) : Prop := W'.heap[Bd]? = W.heap[Bd]? ∧ W'.heap[Bs]? = W.heap[Bs]?

theorem days_iter (a b : Int) (w : World) :
    Calls Tryd.prog 24 #[.int .i64 a, .int .i64 b] w fun e w' => e = .returned (.func (.func 31) #[] #[.pointer (some ⟨w.heap.size, 0, none⟩), .pointer (some ⟨w.heap.size + 1, 0, none⟩)]) ∧
      w' = (w.alloc (.cells #[.int .i64 a] 3)).alloc (.cells #[.int .i64 b] 3) := by
  go_enter Tryd.func24, Tryd.ntmps24
  go_wp2
  go_ret
  exact ⟨rfl, rfl⟩

set_option maxHeartbeats 1000000 in
set_option maxRecDepth 100000 in
theorem days_seq (n : Nat) (d : Int) (Bd Bs : Nat) (W0 : World) (hBd : Boxed W0 Bd 3 (.int .i64 d)) (hBs : Boxed W0 Bs 3 (.int .i64 1)) (hne : Bs ≠ Bd) (hd : 0 ≤ d ∧ d ≤ 3000000) :
    SeqV Fence.wide n Tryd.prog 31 #[.pointer (some ⟨Bd, 0, none⟩), .pointer (some ⟨Bs, 0, none⟩)] (fun (x : Int) => #[.int .i64 x]) (KpDay Bd Bs) (fun xs => xs = upL d 1001) Bd W0 := by
  intro lp J Jx W hW hJ hY h0
  have hw1 : Fence.wide.depth.isSome = true → 1 ≤ n := fun h => absurd h (by simp [Fence.wide])
  have hBd1 : Boxed W Bd 3 (.int .i64 d) := hBd.kept hW (by simp)
  have hBs1 : Boxed W Bs 3 (.int .i64 1) := hBs.kept hW (by simp)
  obtain ⟨hd1, hd2⟩ := hd
  have HJ := Lib.hid hJ; clear hJ
  have HY := Lib.hid hY; clear hY
  have H0 := Lib.hid h0; clear h0
  refine callsIn_of_wp Tryd.func31 rfl trivial ?_ rfl
  simp only [Tryd.ntmps31, List.size_toArray, List.length_cons, List.length_nil, Nat.reduceAdd, Nat.reduceSub, Array.replicate_succ, Array.replicate_zero, List.push_toArray, List.append_toArray, List.nil_append, List.cons_append]
  gi_wp2_with fail
  gi_loopw [4] (fun i wr => ∃ (k : Nat), i = .int .i64 k ∧ k ≤ 1001 ∧ Hid (J (upL d k) wr) ∧ Boxed wr Bd 3 (.int .i64 (d + (k : Int))) ∧ Boxed wr Bs 3 (.int .i64 1)) (fun i _ => 1001 - (intOf i).toNat)
  case atStart => exact ⟨0, rfl, by omega, H0, by simpa using hBd1, hBs1⟩
  case round =>
    obtain ⟨k, rfl, hk, hJs, hbd, hbs⟩ := hrel
    have e1 := hbd.cell
    have e2 := hbs.cell
    have e3 := hbd.frozen
    by_cases hlt : (k : Int) ≤ 1000
    · obtain ⟨fn, tmps, assign, body, hy, hR⟩ := HY.out (upL d k) (d + (k : Int)) wr hJs.out (upL_split d 1001 k (by omega))
      gi_wp2_with (refine ⟨trivial, hw1, ?_⟩; gi_at_call 16; refine (callsIn_wide.2 (cwithin_any _ _ (by omega) (by omega))).mono ?_; rintro e w' ⟨rfl, h9⟩; obtain rfl := h9.symm)
      refine ⟨hw1, hR.mono ?_⟩
      clear e1 e2 e3
      rintro e W' (⟨rfl, hJ', hkk⟩ | ⟨rfl, hx⟩)
      · have hbd' : Boxed W' Bd 3 (.int .i64 (d + (k : Int))) := hkk.1.trans hbd
        have hbs' : Boxed W' Bs 3 (.int .i64 1) := hkk.2.trans hbs
        have e1 := hbd'.cell
        have e2 := hbs'.cell
        have e3 := hbd'.frozen
        have hq : IntKind.i64.wrap (d + (k : Int) + 1) = d + (k : Int) + 1 := wrI (by omega)
        have HJ1 := Lib.hid (HJ.out _ _ _ hJ' (grownBy_setCell' W' Bd (.int .i64 (d + (k : Int) + 1))))
        have HS := Lib.hid (hbd'.set (.int .i64 (d + (k : Int) + 1)))
        have HS2 := Lib.hid (hbs'.other (B' := Bd) hne (.int .i64 (d + (k : Int) + 1)))
        clear hJ' hkk hy hR
        gi_wp2
        go_roundw
        case rel =>
          refine ⟨k + 1, by go_num, by omega, ?_, ?_, HS2.out⟩
          · show J _ _
            rw [upL_succ]
            exact HJ1.out
          · rw [show d + ((k + 1 : Nat) : Int) = d + (k : Int) + 1 by omega]
            exact HS.out
        case measure => simp [intOf]; omega
      · have HX := Lib.hid hx
        clear hx hy hR
        gi_wp2_with fail
        refine bodyPost_ret (results_none rfl _ _ _) rfl ?_
        exact ⟨⟨_, rfl⟩, .inr ⟨_, HX.out⟩⟩
    · obtain rfl : k = 1001 := by omega
      gi_wp2_with (refine ⟨trivial, ?_⟩)
      go_end0
      exact ⟨⟨_, rfl⟩, .inl hJs.out⟩

end Go.Proofs.YtkcmkpljpmfiaaaDoor
