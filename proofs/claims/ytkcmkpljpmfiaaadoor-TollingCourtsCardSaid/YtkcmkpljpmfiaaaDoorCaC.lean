/-
  Package calendar: shut, first.
-/
import Derived.Test.YtkcmkpljpmfiaaaDoorCaB
import Derived.Laws.EntriesVeiled
import Derived.Laws.ResultCell
namespace Go.Proofs.YtkcmkpljpmfiaaaDoor
open Go.RowKit Go.Shelf
attribute [local go_sem] Oper.semAt_some

/-- What a calendar is given as: its twelve cells. -/
def calE (wk : Nat → Bool) (hv cv : Value) (x9 x10 x11 : Value) : Array Value := #[.bool (wk 0), .bool (wk 1), .bool (wk 2), .bool (wk 3), .bool (wk 4), .bool (wk 5), .bool (wk 6), hv, cv, x9, x10, x11]

theorem shut_any (wk : Nat → Bool) (hv cv x9 x10 x11 : Value) (K : Int) (w : World) :
    Calls Tryd.prog 15 #[.agg (calE wk hv cv x9 x10 x11), .int .i64 K] w fun e w' => e = .returned (.func (.func 25) #[] #[.pointer (some ⟨w.heap.size, 0, none⟩), .pointer (some ⟨w.heap.size + 1, 0, none⟩)]) ∧
      w' = (w.alloc (.cells (calE wk hv cv x9 x10 x11) 30)).alloc (.cells #[.int .i64 K] 3) := by
  unfold calE
  go_enter Tryd.func15, Tryd.ntmps15
  go_wp2
  go_ret
  exact ⟨rfl, rfl⟩

/-- Eight blocks laid one behind the other. -/
theorem eight (w : World) (o0 o1 o2 o3 o4 o5 o6 o7 : Obj) (W : World) (h : W = (((((((w.alloc o0).alloc o1).alloc o2).alloc o3).alloc o4).alloc o5).alloc o6).alloc o7) :
    W.heap.size = w.heap.size + 8 ∧ Below w.heap.size w W ∧ W.heap[w.heap.size]? = some o0 ∧ W.heap[w.heap.size + 1]? = some o1 ∧ W.heap[w.heap.size + 2]? = some o2 ∧ W.heap[w.heap.size + 3]? = some o3 ∧ W.heap[w.heap.size + 4]? = some o4 ∧ W.heap[w.heap.size + 5]? = some o5 ∧ W.heap[w.heap.size + 6]? = some o6 ∧ W.heap[w.heap.size + 7]? = some o7 := by
  have hb : Below w.heap.size w W := by
    rw [h]
    refine (((((((((Below.refl _ _).alloc (Nat.le_refl _) _).alloc ?_ _).alloc ?_ _).alloc ?_ _).alloc ?_ _).alloc ?_ _).alloc ?_ _).alloc ?_ _) <;> (first | omega | (simp; omega) | simp)
  have hW : W.heap = w.heap ++ #[o0, o1, o2, o3, o4, o5, o6, o7] := by
    rw [h]
    show (((((((w.heap.push o0).push o1).push o2).push o3).push o4).push o5).push o6).push o7 = _
    apply Array.ext'
    simp only [Array.toList_push, Array.toList_append, List.append_assoc, List.cons_append, List.nil_append]
  refine ⟨by rw [hW]; simp, hb, ?_, ?_, ?_, ?_, ?_, ?_, ?_, ?_⟩ <;> rw [hW, Array.getElem?_append_right (by omega)] <;> simp

theorem run_loadVar_box {P : Program} {w : World} {B : Nat} {t ty : TypeId} {v : Value} {d : TypeDesc} (b : Boxed w B t v)
    (hu : P.underlying ty = some d) (hd : (match d with | .struct _ | .array _ _ => true | _ => false) = false) :
    (loadVar ty ⟨B, 0, none⟩).run P w = .ok v w := by
  have hagg : (isAgg ty).run P w = .ok false w := by
    unfold isAgg
    rw [Sem.run_bind, run_underlying hu w]
    cases d <;> simp_all
  have hc := b.cell
  simp [loadVar, Sem.run_bind, hagg, hc]
theorem results_two_boxes {P : Program} {fn : Func} {p q : Tmp} {ty ty' : TypeId} (h : fn.results = #[.cell p ty, .cell q ty']) (tmps : Array Value) (w : World) {B B' t t' : Nat} {v v' : Value} {d d' : TypeDesc}
    (hp : tmps.getD p undef = .pointer (some ⟨B, 0, none⟩)) (hq : tmps.getD q undef = .pointer (some ⟨B', 0, none⟩)) (b1 : Boxed w B t v) (b2 : Boxed w B' t' v')
    (hu : P.underlying ty = some d) (hd : (match d with | .struct _ | .array _ _ => true | _ => false) = false)
    (hu' : P.underlying ty' = some d') (hd' : (match d' with | .struct _ | .array _ _ => true | _ => false) = false) :
    (results fn tmps).run P w = .ok (.tuple #[v, v']) w := by
  have hp' : tmps[p]?.getD undef = .pointer (some ⟨B, 0, none⟩) := by simpa using hp
  have hq' : tmps[q]?.getD undef = .pointer (some ⟨B', 0, none⟩) := by simpa using hq
  simp [results, h, hp', hq', asAddr, run_loadVar_box b1 hu hd, run_loadVar_box b2 hu' hd']

set_option maxHeartbeats 1000000 in
set_option maxRecDepth 100000 in
theorem first_day_any (wk : Nat → Bool) (hs : List Hol) (cl : List Clo) (hv cv x9 x10 x11 : Value) (K d : Int) (w : World) (hh : IsHos w hv hs) (hc : IsCls w cv cl)
    (hi : ∀ h ∈ hs, HolIn h) (hl : hs.length ≤ 10) (hcl : cl.length ≤ 10) (hT : Tabs w) (hd : 739500 ≤ d ∧ d ≤ 740000) (e : Int) (he1 : d ≤ e) (he2 : e ≤ 740000) (heo : shutF wk hs cl K e = false) :
    Calls Tryd.prog 14 #[.agg (calE wk hv cv x9 x10 x11), .int .i64 d, .int .i64 K, .int .i64 1] w fun ex w' => (∃ r, ex = .returned (.tuple #[.int .i64 r, .int .i64 0]) ∧ d ≤ r ∧ r ≤ e ∧ shutF wk hs cl K r = false ∧ ∀ x, d ≤ x → x < r → shutF wk hs cl K x = true) ∧ Below w.heap.size w w' := by
  have HH := Lib.hid hh; clear hh
  have HC := Lib.hid hc; clear hc
  have HI := Lib.hid hi; clear hi
  have HTT := Lib.hid hT; clear hT
  obtain ⟨hd1, hd2⟩ := hd
  have hw1 : ∀ n, Fence.wide.depth.isSome = true → 1 ≤ n := fun n h => absurd h (by simp [Fence.wide])
  unfold calE
  refine (callsIn_wide (n := 5)).1 ?_
  refine callsIn_of_wp_marks Tryd.func14 rfl trivial ?_ rfl
  simp only [Tryd.ntmps14, List.size_toArray, List.length_cons, List.length_nil, Nat.reduceAdd, Nat.reduceSub, Array.replicate_succ, Array.replicate_zero, List.push_toArray, List.append_toArray, List.nil_append, List.cons_append]
  gi_wp2_with (first
    | (refine ⟨trivial, ?_⟩; gi_at_call 16; refine (callsIn_wide.2 (cwithin_any _ _ (by omega) (by omega))).mono ?_; rintro e w' ⟨rfl, h9⟩; obtain rfl := h9.symm)
    | (refine ⟨trivial, ?_⟩; gi_at_call 15; refine (callsIn_wide.2 (shut_any wk hv cv x9 x10 x11 K _)).mono ?_; rintro e w' ⟨rfl, rfl⟩; unfold calE)
    | (refine ⟨trivial, ?_⟩; gi_at_call 24; refine (callsIn_wide.2 (days_iter _ _ _)).mono ?_; rintro e w' ⟨rfl, rfl⟩))
  generalize hW0 : (World.alloc (World.alloc (World.alloc (World.alloc (World.alloc (World.alloc (World.alloc (World.alloc w _) _) _) _) _) _) _) _) = W0
  obtain ⟨hsz, hbe, q0, q1, q2, q3, q4, q5, q6, q7⟩ := eight w _ _ _ _ _ _ _ _ W0 hW0.symm
  simp only [Nat.add_assoc, Nat.reduceAdd] at *
  clear hW0
  refine wpIn_rangeFunc_V rfl (by omega) (gf := 31) (lb := #[.pointer (some ⟨w.heap.size + 6, 0, none⟩), .pointer (some ⟨w.heap.size + 7, 0, none⟩)]) rfl trivial (enters_of Tryd.func31 (by kernel_rfl) rfl)
    (days_seq _ d (w.heap.size + 6) (w.heap.size + 7) W0 q6 q7 (by omega) (by omega)) (by omega) ?kt ?kb (fun _ => rfl)
    (fun pre W => Below (w.heap.size + 6) W0 W ∧ w.heap.size + 8 ≤ W.heap.size ∧ (∀ x ∈ pre, shutF wk hs cl K x = true) ∧ pre = upL d pre.length)
    (fun _ W => Below w.heap.size w W ∧ ∃ r, Boxed W (w.heap.size + 1) 3 (.int .i64 r) ∧ Boxed W (w.heap.size + 2) 38 (.int .i64 0) ∧ d ≤ r ∧ r ≤ e ∧ shutF wk hs cl K r = false ∧ ∀ x, d ≤ x → x < r → shutF wk hs cl K x = true) ?hI ?hIx
    ⟨Below.refl _ _, by omega, by simp, rfl⟩
    (fun x => { tmps := #[.agg #[.bool (wk 0), .bool (wk 1), .bool (wk 2), .bool (wk 3), .bool (wk 4), .bool (wk 5), .bool (wk 6), hv, cv, x9, x10, x11], .int .i64 d, .int .i64 K, .int .i64 1, .pointer (some ⟨w.heap.size, 0, none⟩), undef, undef, undef, .pointer (some ⟨w.heap.size + 1, 0, none⟩), .pointer (some ⟨w.heap.size + 2, 0, none⟩), .pointer (some ⟨w.heap.size + 5, 0, none⟩), .int .i64 x, .int .i64 d, .bool true, .bool false, .agg #[.bool (wk 0), .bool (wk 1), .bool (wk 2), .bool (wk 3), .bool (wk 4), .bool (wk 5), .bool (wk 6), hv, cv, x9, x10, x11], .int .i64 K, .func (.func 25) #[] #[.pointer (some ⟨w.heap.size + 3, 0, none⟩), .pointer (some ⟨w.heap.size + 4, 0, none⟩)], .int .i64 d, .int .i64 1, .func (.func 31) #[] #[.pointer (some ⟨w.heap.size + 6, 0, none⟩), .pointer (some ⟨w.heap.size + 7, 0, none⟩)], .int .i64 x, undef, undef, undef, undef, undef], defers := [] }) ?assign ?body ?stop ?done
  case kt => exact fun h k => ⟨k.1.trans h.1, k.2.trans h.2⟩
  case kb => exact fun W l o hl => ⟨World.putObj_heap_other (by omega), World.putObj_heap_other (by omega)⟩
  case hI =>
    rintro pre X Y row ⟨h1, h2, h3, h4⟩ hg hr
    exact ⟨h1.grown hg (by omega) (fun k ek => by rcases hr _ ek with h | ⟨h, -⟩ <;> omega), by have := hg.size; omega, h3, h4⟩
  case hIx =>
    rintro pre X Y row ⟨h1, r, h2, h3, h4⟩ hg hr
    exact ⟨h1.grown hg h1.size (fun k ek => by rcases hr _ ek with h | ⟨h, -⟩ <;> omega), r, h2.kept hg (fun ek => by rcases hr _ ek.symm with h | ⟨h, -⟩ <;> omega), h3.kept hg (fun ek => by rcases hr _ ek.symm with h | ⟨h, -⟩ <;> omega), h4⟩
  case assign =>
    intro lp x W K hK
    gi_wp2
    simpa using hK
  case body =>
    rintro lp pre x W hlp ⟨hB, hsW, hsh, hpl⟩ ⟨post, hpost⟩
    obtain ⟨m, hm⟩ : ∃ m, pre.length = m := ⟨_, rfl⟩
    have hx : x = d + (m : Int) ∧ m < 1001 := by
      have h1 : (upL d 1001)[m]? = some x := by rw [← hpost, ← hm]; simp
      unfold upL at h1
      rw [List.getElem?_map] at h1
      by_cases hlt : m < 1001
      · rw [List.getElem?_eq_getElem (by simpa using hlt)] at h1
        simp at h1
        exact ⟨h1.symm, hlt⟩
      · rw [List.getElem?_eq_none (by simp; omega)] at h1
        cases h1
    have hxe : x ≤ e := by
      refine Classical.byContradiction fun hn => ?_
      have h1 : e ∈ pre := by
        rw [hpl, hm]
        unfold upL
        rw [List.mem_map]
        exact ⟨(e - d).toNat, by rw [List.mem_range]; omega, by omega⟩
      rw [hsh e h1] at heo
      cases heo
    obtain ⟨rfl, hm1⟩ := hx
    have hwW : Below w.heap.size w W := hbe.trans (hB.mono (by omega))
    have r3 := (hB.block (w.heap.size + 3) (by omega)).trans q3
    have r4 := (hB.block (w.heap.size + 4) (by omega)).trans q4
    have r5 := (hB.block (w.heap.size + 5) (by omega)).trans q5
    have r1 : Boxed W (w.heap.size + 1) 3 (.int .i64 0) := (hB.block (w.heap.size + 1) (by omega)).trans q1
    have r2 : Boxed W (w.heap.size + 2) 38 (.int .i64 0) := (hB.block (w.heap.size + 2) (by omega)).trans q2
    have hca : CalAt W (w.heap.size + 3) wk hs cl hv cv := ⟨fun j hj => by
      match j, hj with
      | 0, _ => simp [World.cell?, r3]
      | 1, _ => simp [World.cell?, r3]
      | 2, _ => simp [World.cell?, r3]
      | 3, _ => simp [World.cell?, r3]
      | 4, _ => simp [World.cell?, r3]
      | 5, _ => simp [World.cell?, r3]
      | 6, _ => simp [World.cell?, r3], by simp [World.cell?, r3], by simp [World.cell?, r3], HH.out.below hwW, HC.out.below hwW⟩
    have HS1 := Lib.hid (shut1_any (w.heap.size + 3) (w.heap.size + 4) wk hs cl hv cv K (d + (m : Int)) W hca (by simp [World.cell?, r4]) HI.out hl hcl (HTT.out.below hwW) (by omega))
    have a5 : W.cell? ⟨w.heap.size + 5, 0, none⟩ = some (.func (.func 25) #[] #[.pointer (some ⟨w.heap.size + 3, 0, none⟩), .pointer (some ⟨w.heap.size + 4, 0, none⟩)]) := by simp [World.cell?, r5]
    clear r3 r4 r5 hca
    obtain ⟨b, hb⟩ : ∃ b, shutF wk hs cl K (d + (m : Int)) = b := ⟨_, rfl⟩
    rw [hb] at HS1
    gi_wp2_with fail
    refine ⟨trivial, ?_⟩
    refine (CallsIn.inRound _ (callsIn_wide.2 HS1.out)).mono ?_
    rintro ex W2 ⟨rfl, hb2⟩
    have r12 : Boxed W2 (w.heap.size + 1) 3 (.int .i64 0) := (hb2.block _ (by omega)).trans r1
    have r22 : Boxed W2 (w.heap.size + 2) 38 (.int .i64 0) := (hb2.block _ (by omega)).trans r2
    have hs2 := hb2.size
    have HB2 := Lib.hid hb2
    have HWW := Lib.hid hwW
    cases b
    · have e1 := r12.cell
      have e2 := r22.cell
      have e3 := r12.frozen
      have e4 := r22.frozen
      have R1 := Lib.hid r12
      have R2 := Lib.hid r22
      clear r1 r2 r12 r22 hb2 hwW HS1
      gi_wp2_with fail
      have hup : upL d m = pre := by rw [← hm]; exact hpl.symm
      refine ⟨((KeepsOthers.of_grownBy (grown_of_below HB2.out) (fun j o h => by cases h)).trans ((KeepsOthers.setCell _ _ _).trans (KeepsOthers.setCell _ _ _))).from _,
        ((Below.to HWW.out HB2.out HWW.out.size).setCell (p := ⟨w.heap.size + 1, 0, none⟩) (Nat.le_add_right _ _) _).setCell (p := ⟨w.heap.size + 2, 0, none⟩) (Nat.le_add_right _ _) _,
        d + (m : Int), (R1.out.set (.int .i64 (d + (m : Int)))).other (B' := w.heap.size + 2) (by omega) (.int .i64 0), (R2.out.other (B' := w.heap.size + 1) (by omega) (.int .i64 (d + (m : Int)))).set (.int .i64 0), by omega, hxe, hb, fun x h1 h2 => hsh x ?_⟩
      rw [← hup]
      unfold upL
      rw [List.mem_map]
      exact ⟨(x - d).toNat, by rw [List.mem_range]; omega, by omega⟩
    · clear r1 r2 r12 r22 hb2 hwW HS1
      gi_wp2_with fail
      have hup : upL d m = pre := by rw [← hm]; exact hpl.symm
      refine ⟨(KeepsOthers.of_grownBy (grown_of_below HB2.out) (fun j o h => by cases h)).from _, ⟨HB2.out.block (w.heap.size + 6) (by omega), HB2.out.block (w.heap.size + 7) (by omega)⟩, hB.trans (HB2.out.mono (by omega)), by omega, ?_, ?_⟩
      · intro x hx
        rcases List.mem_append.1 hx with h | h
        · exact hsh x h
        · rw [List.mem_singleton] at h
          rw [h]
          exact hb
      · rw [List.length_append, List.length_singleton, hm, upL_succ, hup]
  case stop =>
    rintro D pre W hD ⟨hW, r, b1, b2, f1, f2, f3, f4⟩ hK
    have hbd : Below w.heap.size w (W.putObj D (.deferred none)) := hW.trans ⟨rfl, rfl, rfl, by simp [World.putObj], fun k hk => World.putObj_heap_other (by omega)⟩
    have c1 : Boxed (W.putObj D (.deferred none)) (w.heap.size + 1) 3 (.int .i64 r) := (World.putObj_heap_other (by omega)).trans b1
    have c2 : Boxed (W.putObj D (.deferred none)) (w.heap.size + 2) 38 (.int .i64 0) := (World.putObj_heap_other (by omega)).trans b2
    gi_wp2
    refine ⟨by simp, .inl ⟨_, _, rfl, run_takeDeferred hK, ?_⟩⟩
    exact ⟨_, results_two_boxes rfl _ _ rfl rfl c1 c2 Tryd.underlying3 rfl Tryd.underlying38 rfl, ⟨r, rfl, f1, f2, f3, f4⟩, hbd⟩
  case done =>
    rintro D xs W hD hxs ⟨-, -, hsh, -⟩ hK
    exfalso
    have h1 : e ∈ xs := by
      rw [hxs]
      unfold upL
      rw [List.mem_map]
      exact ⟨(e - d).toNat, by rw [List.mem_range]; omega, by omega⟩
    rw [hsh e h1] at heo
    cases heo

end Go.Proofs.YtkcmkpljpmfiaaaDoor
