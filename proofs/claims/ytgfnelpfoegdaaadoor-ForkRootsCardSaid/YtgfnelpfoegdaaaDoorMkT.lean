/-
  merkle.taker and its closures. (Printed by wip/tools/gen_dgd.py.)
-/
import Derived.Test.YtgfnelpfoegdaaaDoorMkI
import Derived.RangeFuncBox
namespace Go.Proofs.YtgfnelpfoegdaaaDoor
open Go.RowKit

/-- All blocks but q are as they were. -/
structure Kb (w w' : World) (q : Nat) : Prop where
  below : Below q w w'
  keep : ∀ k, k < w.heap.size → k ≠ q → w'.heap[k]? = w.heap[k]?
theorem Kb.refl (w : World) (q : Nat) : Kb w w q := ⟨Below.refl _ _, fun _ _ _ => rfl⟩
theorem Kb.trans {w w1 w2 : World} {q : Nat} (h : Kb w w1 q) (h' : Kb w1 w2 q) : Kb w w2 q :=
  ⟨h.below.trans h'.below, fun k hk hq => by rw [h'.keep k (Nat.lt_of_lt_of_le hk h.below.size) hq, h.keep k hk hq]⟩
theorem Kb.of_below {w w' : World} {q : Nat} (h : Below w.heap.size w w') (hq : q ≤ w.heap.size) : Kb w w' q :=
  ⟨h.mono hq, fun k hk _ => h.block k hk⟩
theorem Kb.boxed {w w' : World} {q g t : Nat} {v : Value} (h : Kb w w' q) (hb : Boxed w g t v) (hg : g ≠ q) : Boxed w' g t v := (h.keep g hb.lt hg).trans hb
theorem Kb.row {w w' : World} {q g t : Nat} {k : IntKind} {xs : List Int} (h : Kb w w' q) (hb : NRow w k g t xs) (hg : g ≠ q) : NRow w' k g t xs := (h.keep g hb.lt hg).trans hb

/-- A taker at work: the boxes of the path (p), of what is left (p + 1) and of what is missing (p + 2). -/
structure Tk (w : World) (p : Nat) (a : Option Addr) (cap : Nat) (hs : List (List Int)) (i : Nat) : Prop where
  path : Boxed w p 29 (.slice a hs.length cap)
  left : Boxed w (p + 1) 3 (.int .i64 i)
  miss : Boxed w (p + 1 + 1) 4 (.bool false)
  is : IsHs w (.slice a hs.length cap) hs
  own : 0 < hs.length → ∀ b, a.map (·.block) = some b → b < p
  le : i ≤ hs.length
  few : hs.length ≤ 100000

theorem Tk.kb {w w' : World} {p i : Nat} {a : Option Addr} {cap : Nat} {hs : List (List Int)} (h : Tk w p a cap hs i) (hb : Below w.heap.size w w') : Tk w' p a cap hs i :=
  ⟨(hb.block _ h.path.lt).trans h.path, (hb.block _ h.left.lt).trans h.left, (hb.block _ h.miss.lt).trans h.miss, h.is.below hb, h.own, h.le, h.few⟩

theorem mkTaker (hs : List (List Int)) (a : Option Addr) (cap : Nat) (w : World) (hv : IsHs w (.slice a hs.length cap) hs) (hl : hs.length ≤ 100000) (hown : 0 < hs.length → ∀ b, a.map (·.block) = some b → b < w.heap.size) :
    Calls Tryd.prog 35 #[.slice a hs.length cap] w fun e w' => e = .returned (.tuple #[.func (.func 59) #[] #[.pointer (some ⟨w.heap.size + 1, 0, none⟩), .pointer (some ⟨w.heap.size + 1 + 1, 0, none⟩), .pointer (some ⟨w.heap.size, 0, none⟩)],
      .func (.func 60) #[] #[.pointer (some ⟨w.heap.size + 1, 0, none⟩), .pointer (some ⟨w.heap.size + 1 + 1, 0, none⟩)]]) ∧ Tk w' w.heap.size a cap hs hs.length ∧ Below w.heap.size w w' := by
  have hT : Tk (((w.alloc (.cells #[.slice a hs.length cap] 29)).alloc (.cells #[.int .i64 hs.length] 3)).alloc (.cells #[.bool false] 4)) w.heap.size a cap hs hs.length := by
    refine ⟨((Boxed.new _ _ _).alloc _).alloc _, ?_, ?_, ?_, hown, Nat.le_refl _, hl⟩
    · have h := (Boxed.new (w.alloc (.cells #[.slice a hs.length cap] 29)) 3 (.int .i64 hs.length)).alloc (.cells #[.bool false] 4)
      simpa using h
    · have h := Boxed.new ((w.alloc (.cells #[.slice a hs.length cap] 29)).alloc (.cells #[.int .i64 hs.length] 3)) 4 (.bool false)
      simpa using h
    · exact hv.below ((((Below.refl _ _).alloc (Nat.le_refl _) _).alloc (by simp) _).alloc (by simp; omega) _)
  have hB : Below w.heap.size w (((w.alloc (.cells #[.slice a hs.length cap] 29)).alloc (.cells #[.int .i64 hs.length] 3)).alloc (.cells #[.bool false] 4)) :=
    (((Below.refl _ _).alloc (Nat.le_refl _) _).alloc (by simp) _).alloc (by simp; omega) _
  have HT := Lib.hid hT
  have HB := Lib.hid hB
  clear hT hB hv hown
  obtain ⟨L, hL⟩ : ∃ L, hs.length = L := ⟨_, rfl⟩
  have hmf : ∀ (fn : Fn) (first cap : Array Value) (w : World), (Instr.makeFunc fn first cap).run Tryd.prog w = .ok (.func fn first cap) w := fun _ _ _ _ => rfl
  rw [hL] at HT HB ⊢
  go_enter Tryd.func35, Tryd.ntmps35
  go_wp2_with fail
  go_ret2
  exact ⟨rfl, hL ▸ HT.out, HB.out⟩

theorem mkDone (hs : List (List Int)) (a : Option Addr) (cap p : Nat) (w : World) (hT : Tk w p a cap hs 0) :
    Calls Tryd.prog 60 #[.pointer (some ⟨p + 1, 0, none⟩), .pointer (some ⟨p + 1 + 1, 0, none⟩)] w fun e w' => e = .returned (.bool true) ∧ w' = w := by
  have h1 := hT.left.cell
  have h2 := hT.miss.cell
  rw [show ((0 : Nat) : Int) = 0 from rfl] at h1
  clear hT
  go_enter Tryd.func60, Tryd.ntmps60
  go_wp2_with fail
  go_ret
  exact ⟨rfl, rfl⟩

set_option maxHeartbeats 1000000 in
set_option maxRecDepth 100000 in
theorem mkTake (hs : List (List Int)) (a : Option Addr) (cap p i : Nat) (w : World) (hT : Tk w p a cap hs (i + 1)) (hi : i < hs.length) :
    Calls Tryd.prog 59 #[.pointer (some ⟨p + 1, 0, none⟩), .pointer (some ⟨p + 1 + 1, 0, none⟩), .pointer (some ⟨p, 0, none⟩)] w fun e w' => e = .returned (.agg ((hs[i]).map (Value.int .u8)).toArray) ∧ Tk w' p a cap hs i ∧ Kb w w' (p + 1) := by
  obtain ⟨RES, hRES⟩ : ∃ R, hs[i] = R := ⟨_, rfl⟩
  have hRl : RES.length = 32 := by rw [← hRES]; exact hT.is.2 _ (List.getElem_mem hi)
  obtain ⟨a', cap', e', hcap, hao⟩ := hT.is.open
  simp only [Value.slice.injEq, true_and] at e'
  obtain ⟨rfl, rfl⟩ := e'
  obtain ⟨b, o, rfl⟩ := hao (by omega)
  have hbp := hT.own (by omega) b rfl
  rw [hRES]
  obtain ⟨P, hP⟩ : ∃ P, P = w.heap.size := ⟨_, rfl⟩
  obtain ⟨W1, hW1⟩ : ∃ W1, W1 = (w.setCell ⟨p + 1, 0, none⟩ (.int .i64 i)).alloc (.cells #[.int .u8 0, .int .u8 0, .int .u8 0, .int .u8 0, .int .u8 0, .int .u8 0, .int .u8 0, .int .u8 0, .int .u8 0, .int .u8 0, .int .u8 0, .int .u8 0, .int .u8 0, .int .u8 0, .int .u8 0, .int .u8 0, .int .u8 0, .int .u8 0, .int .u8 0, .int .u8 0, .int .u8 0, .int .u8 0, .int .u8 0, .int .u8 0, .int .u8 0, .int .u8 0, .int .u8 0, .int .u8 0, .int .u8 0, .int .u8 0, .int .u8 0, .int .u8 0] 33) := ⟨_, rfl⟩
  have hws : (w.setCell ⟨p + 1, 0, none⟩ (.int .i64 i)).heap.size = w.heap.size := by simp
  have hpl := hT.left.lt
  have hm := hT.miss.lt
  have hz1 : NRow W1 .u8 P 33 (List.replicate 32 0) := by rw [hW1, hP, ← hws]; exact NRow.new _ .u8 33 (List.replicate 32 0)
  have hk0 : Kb w W1 (p + 1) := by
    rw [hW1]
    exact ⟨((Below.refl _ _).setCell (p := ⟨p + 1, 0, none⟩) (Nat.le_refl _) _).alloc (by rw [hws]; show p + 1 ≤ _; omega) _, fun k hk hq => ((World.grownBy_alloc _ _ none).block k (by rw [hws]; exact hk) (by simp)).trans (Below.heap_setCell _ _ _ _ hq)⟩
  have hT1 : Tk W1 p (some ⟨b, o, none⟩) cap hs i := by
    refine ⟨hk0.boxed hT.path (by omega), ?_, hk0.boxed hT.miss (by omega), ?_, hT.own, by have := hT.le; omega, hT.few⟩
    · rw [hW1]; exact (hT.left.set _).alloc _
    · exact ⟨hT.is.1.same fun k hk hv => hk0.keep k hk (by have := hT.own (by omega) b rfl; simp [Value.ownBlock] at hv; omega), hT.is.2⟩
  have hr : W1.rangeAt b (o + i * 32) (RES.map (Value.int .u8)) := by
    have h := hT1.is.at_ (i := i) hi
    rw [hRES] at h
    exact h
  have hkF : Kb w (W1.setRow P (RES.map (Value.int .u8)).toArray) (p + 1) := by
    refine ⟨below_setRow hk0.below P _ (by omega), fun k hk hq => ?_⟩
    rw [setRow_other W1 P k _ (by omega)]
    exact hk0.keep k hk hq
  have hTF : Tk (W1.setRow P (RES.map (Value.int .u8)).toArray) p (some ⟨b, o, none⟩) cap hs i := by
    have hs1 : Below P W1 (W1.setRow P (RES.map (Value.int .u8)).toArray) := below_setRow (Below.refl _ _) P _ (Nat.le_refl _)
    refine ⟨(hs1.block _ (by omega)).trans hT1.path, (hs1.block _ (by omega)).trans hT1.left, (hs1.block _ (by omega)).trans hT1.miss, ?_, hT.own, hT1.le, hT.few⟩
    exact ⟨hT1.is.1.belowB hs1 (fun k hk => by simp [Value.ownBlock] at hk; omega), hT.is.2⟩
  have h1 := hT.left.cell
  have h2 := hT.left.frozen
  have h3 := hT1.left.cell
  have h4 := hT1.path.cell
  rw [hW1] at h3 h4
  have hn1 : ((i + 1 : Nat) : Int) = (i : Int) + 1 := by omega
  rw [hn1] at h1
  have hL : (i : Int) < (hs.length : Int) := by omega
  obtain ⟨L, hLL⟩ : ∃ L, hs.length = L := ⟨_, rfl⟩
  have hLf : L ≤ 100000 := by rw [← hLL]; exact hT.few
  rw [hLL] at h4 hL
  have hiL : i < L := by omega
  have HTF := Lib.hid hTF
  have HKF := Lib.hid hkF
  have HZ1 := Lib.hid hz1
  have HR := Lib.hid hr
  have HP := Lib.hid hP
  have HW1 := Lib.hid hW1
  clear hTF hkF hz1 hr hP hT1 hk0 hT hao hcap hRES hW1
  go_enter Tryd.func59, Tryd.ntmps59
  go_wp2_with
    (first
      | (rw [← HW1.out, ← HP.out]; refine wpList_load_mid rfl 33 _ rfl b (o + i * 32) rfl (RES.map (Value.int .u8)) _ HR.out Tryd.underlying33 rfl (by rw [info32]; simp [hRl]) ?_)
      | (refine wpList_store_row rfl 33 _ _ rfl P (RES.map (Value.int .u8)).toArray rfl rfl 33 _ HZ1.out (by rw [info32]; simp [hRl]) (by simp [hRl]) (u8_all _) ?_))
  refine bodyPost_ret (results_cell_row rfl _ _ P 33 (RES.map (Value.int .u8)).toArray (0, 0) _ rfl HZ1.out.store Tryd.underlying33 rfl (by rw [info32]; simp [hRl])) rfl ?_
  exact ⟨rfl, HTF.out, HKF.out⟩

end Go.Proofs.YtgfnelpfoegdaaaDoor
