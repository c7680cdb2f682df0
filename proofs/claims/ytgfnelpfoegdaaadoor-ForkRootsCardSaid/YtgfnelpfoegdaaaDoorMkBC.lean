/-
  A slice of one hash made in place; append of one hash onto a full slice; merkle.with.
  merkle.with.
-/
import Derived.Test.YtgfnelpfoegdaaaDoorMkMR
import Derived.Deep.AppendSrc
import Derived.Lib.AppendZeros
namespace Go.Proofs.YtgfnelpfoegdaaaDoor
open Go.RowKit

theorem fold_all : ∀ (l : List Value) (k : Nat) (a : Array Value), k + l.length ≤ a.size →
    ((l.zipIdx k).foldl (fun (cs : Array Value) (p : Value × Nat) => cs.setIfInBounds p.2 p.1) a).toList = a.toList.take k ++ l ++ a.toList.drop (k + l.length)
  | [], k, a, h => by simp
  | x :: l, k, a, h => by
    simp only [List.zipIdx_cons, List.foldl_cons]
    rw [fold_all l (k + 1) _ (by simp at h ⊢; omega)]
    have hk : k < a.toList.length := by simp at h ⊢; omega
    simp only [Array.toList_setIfInBounds]
    rw [List.take_set, List.take_succ_eq_append_getElem hk, List.drop_set_of_lt (by omega)]
    rw [List.set_append_right _ _ (by simp; omega)]
    have e : k - (List.take k a.toList).length = 0 := by rw [List.length_take]; omega
    rw [e]
    simp [Nat.add_assoc, Nat.add_comm 1]

theorem fill_one (n : Nat) (cs zs : Array Value) (h : cs.size = n) (hz : zs.size = 1 * n) : Instr.fill (fun i => some (i * n, n)) zs [(0, .agg cs)] = some cs := by
  have h0 : Value.cells (.agg cs) = cs := rfl
  unfold Instr.fill
  simp only [h0, Nat.zero_mul, Nat.zero_add]
  rw [if_neg (by simp; omega)]
  unfold Instr.fill
  congr 1
  apply Array.ext'
  have h1 := fold_all cs.toList 0 zs (by simp; omega)
  rw [← Array.foldl_toList, Array.toList_zipIdx]
  refine h1.trans ?_
  simp
  omega

theorem run_buildSlice_one {P : Program} (w : World) (t e : TypeId) (i : TypeInfo) (z : Value) (cs : Array Value) (ht : P.underlying t = some (.slice e)) (hi : P.info? e = some i) (hz : i.zero = some z) (hs : i.size = cs.size) (h0 : 0 < cs.size) (h24 : cs.size ≤ 65536) :
    (Instr.buildSlice t 1 #[(0, .agg cs)]).run P w = .ok (.slice (some ⟨w.heap.size, 0, none⟩) 1 1) (w.alloc (.cells cs e)) := by
  have hf := fill_one cs.size cs ((Array.range cs.size).map (z.cells[· % z.cells.size]!)) rfl (by simp)
  simp only [Instr.buildSlice, Sem.run_bind, run_underlying ht, Result.andThen_ok, sizeOf, typeInfo]
  have hne : ¬ cs = #[] := by rintro rfl; simp at h0
  simp [hi, hz, hs, zeroValue, typeInfo, newRow]
  rw [if_neg (by omega), if_neg hne, hf]
  simp

theorem wp_buildSlice_one {P : Program} {w : World} {o : Oper} {a : Act} {K : Act → World → Prop} {Q : Exit → Act → World → Prop} (t : TypeId) (x : Operand)
    (ho : o.op = .buildSlice t 1 #[(0, x)]) (cs : Array Value) (hx : a.eval x = .agg cs) (e : TypeId) (i : TypeInfo) (z : Value) (ht : P.underlying t = some (.slice e)) (hi : P.info? e = some i) (hz : i.zero = some z) (hs : i.size = cs.size) (h0 : 0 < cs.size) (h24 : cs.size ≤ 65536)
    (h : K (a.put o.dst (.slice (some ⟨w.heap.size, 0, none⟩) 1 1)) (w.alloc (.cells cs e))) : o.wp P a w K Q := by
  unfold Oper.wp execOp
  simp only [ho, List.map_toArray, List.map_cons, List.map_nil, hx, Sem.run_bind, run_buildSlice_one w t e i z cs ht hi hz hs h0 h24, Result.andThen_ok, Sem.run_pure]
  exact h

theorem wpList_buildSlice_one {P : Program} {w : World} {ops : Array Oper} {rest : List Oper} {o : Oper} {a : Act} {Q : Exit → Act → World → Prop} (hgd : o.guard = none) (t : TypeId) (x : Operand)
    (ho : o.op = .buildSlice t 1 #[(0, x)]) (cs : Array Value) (hx : a.eval x = .agg cs) (e : TypeId) (i : TypeInfo) (z : Value) (ht : P.underlying t = some (.slice e)) (hi : P.info? e = some i) (hz : i.zero = some z) (hs : i.size = cs.size) (h0 : 0 < cs.size) (h24 : cs.size ≤ 65536)
    (h : wpList P ops Q rest (a.put o.dst (.slice (some ⟨w.heap.size, 0, none⟩) 1 1)) (w.alloc (.cells cs e))) : wpList P ops Q (o :: rest) a w :=
  wpList_plain hgd fun _ hK => wp_buildSlice_one t x ho cs hx e i z ht hi hz hs h0 h24 (hK _ _ h)

/-- append of hashes onto a slice without room. -/
theorem run_append_hs (w : World) (a : Option Addr) (xv : Value) (hs ms : List (List Int)) (h : IsHs w (.slice a hs.length hs.length) hs) (hm : IsHs w xv ms) (h0 : 0 < ms.length) (hl : hs.length + ms.length ≤ 1000000) :
    ∃ v' w', (Builtin.append_ #[29, 29] 29 #[.slice a hs.length hs.length, xv]).run Tryd.prog w = .ok v' w' ∧ IsHs w' v' (hs ++ ms) ∧ Below w.heap.size w w' := by
  obtain ⟨i, hi⟩ : ∃ i, Tryd.prog.info? 33 = some i := by
    have h9 := info32
    cases hq : Tryd.prog.info? 33 with
    | none => rw [hq] at h9; cases h9
    | some i => exact ⟨i, rfl⟩
  have hi3 : (Tryd.prog.info? 33).map (fun i => (i.zero.map (·.cells.size), i.size, i.bytes)) = some (some 32, 32, 32) := by kernel_rfl
  rw [hi] at hi3
  simp only [Option.map_some, Option.some.injEq, Prod.mk.injEq] at hi3
  obtain ⟨hz, hsz, hby⟩ := hi3
  obtain ⟨z, hz1⟩ : ∃ z, i.zero = some z := by cases hq : i.zero with | none => rw [hq] at hz; cases hz | some z => exact ⟨z, rfl⟩
  obtain ⟨a1, c1, e1, -, hsr⟩ := h.1.source
  simp only [Value.slice.injEq, true_and] at e1
  obtain ⟨rfl, rfl⟩ := e1
  obtain ⟨a2, c2, rfl, -, hsm⟩ := hm.1.source
  have hold : (Builtin.firstCells i.size hs.length (.slice a hs.length hs.length)).run Tryd.prog w.drew = .ok (bts hs.flatten).toArray w.drew := by
    rcases hsr with ⟨rfl, e⟩ | ⟨ad, rfl, hc⟩
    · rw [e]; exact run_firstCells_none w.drew _ _ _ _
    · exact run_firstCells_some w.drew i.size _ ad _ _ _ (by rw [hsz]; exact flat32 h.2) (by simpa using hc)
  have hsrc : Src Tryd.prog i.size 29 (.slice a2 ms.length c2) ms.length (bts ms.flatten) w := by
    rcases hsm with ⟨rfl, e⟩ | ⟨ad, rfl, hc⟩
    · have := flat32 hm.2; rw [e] at this; simp at this; omega
    · exact Src.ofSlice w Tryd.underlying29 ad _ _ _ (by rw [hsz]; exact flat32 hm.2) hc (by intro u hu; obtain ⟨x, _, rfl⟩ := List.mem_map.1 hu; rfl)
  have hcap := nextslicecap_le (need := hs.length + ms.length) (old := hs.length) (by omega)
  have hr := run_append_grow_src (P := Tryd.prog) w 29 29 29 33 i z Tryd.underlying29 hi hz1 a hs.length hs.length (bts hs.flatten) hold _ ms.length (bts ms.flatten) hsrc (by omega) (by omega) (by rw [hby]; omega)
  refine ⟨_, _, hr, ⟨⟨?_, ?_, some ⟨w.heap.size, 0, none⟩, grownCap w (hs.length + ms.length) hs.length 33, ?_, ?_, ?_⟩, ?_⟩, ?_⟩
  · exact flat32 (fun x hx => (List.mem_append.1 hx).elim (h.2 x) (hm.2 x))
  · rw [List.length_append]; unfold maxLen; omega
  · rw [List.length_append]
  · rw [List.length_append]; exact grownCap_ge w _ _ _
  · intro j u hu
    refine ⟨w.heap.size, 0, rfl, ?_⟩
    have hrow : (w.drew.alloc (.cells ((bts hs.flatten ++ bts ms.flatten).toArray ++ Builtin.zeroCells z.cells (grownCap w (hs.length + ms.length) hs.length 33 - (hs.length + ms.length))) 33)).heap[w.heap.size]? = _ := World.alloc_heap_new w.drew _
    rw [Nat.zero_add, cell_of_row _ _ _ _ _ _ hrow]
    have e1 : bts (hs ++ ms).flatten = bts hs.flatten ++ bts ms.flatten := by simp [bts]
    rw [e1] at hu
    have hj := (List.getElem?_eq_some_iff.1 hu).1
    rw [Array.getElem?_append_left (by simpa using hj)]
    simpa using hu
  · exact fun x hx => (List.mem_append.1 hx).elim (h.2 x) (hm.2 x)
  · exact (Below.refl _ _).drew.alloc (Nat.le_refl _) _

end Go.Proofs.YtgfnelpfoegdaaaDoor

namespace Go.Proofs.YtgfnelpfoegdaaaDoor
open Go.RowKit

set_option maxHeartbeats 1000000 in
theorem mkWith (hs ms : List (List Int)) (v u : Value) (w : World) (hv : IsHs w v hs) (hu : IsHs w u ms) (h0 : 0 < ms.length) (hl : hs.length + ms.length ≤ 1000000) :
    Calls Tryd.prog 58 #[v, u] w fun e w' => ∃ v', e = .returned v' ∧ IsHs w' v' (hs ++ ms) ∧ Below w.heap.size w w' := by
  obtain ⟨a, cap, rfl, hcap, hao⟩ := hv.open
  have hv2 : IsHs w (.slice a hs.length hs.length) hs := by
    obtain ⟨⟨h1, h2, a', cap', e, hn, hc⟩, h32⟩ := hv
    simp only [Value.slice.injEq] at e
    obtain ⟨rfl, -, rfl⟩ := e
    exact ⟨⟨h1, h2, a, hs.length, rfl, Nat.le_refl _, hc⟩, h32⟩
  obtain ⟨v', w', hr, hi, hb⟩ := run_append_hs w a u hs ms hv2 hu h0 hl
  obtain ⟨L, hL⟩ : ∃ L, hs.length = L := ⟨_, rfl⟩
  have hm := hv.len_le
  rw [hL] at hr hcap hm ⊢
  have HR := Lib.hid hr
  have HI := Lib.hid hi
  have HB := Lib.hid hb
  clear hr hi hb hv hu hv2 hL hao h0 hl
  unfold maxLen at hm
  go_enter Tryd.func58, Tryd.ntmps58
  go_wp2_with
    (first
      | (at_builtin; go_must (refine Lib.wpList_append_run _ rfl _ _ 29 29 rfl _ _ rfl rfl v' w' HR.out ?_))
      | (go_at_call 70; go_in))
  all_goals go_ret
  all_goals exact ⟨_, rfl, HI.out, HB.out⟩

end Go.Proofs.YtgfnelpfoegdaaaDoor
