/-
  TollingCourts: for every input the law returns true and writes nothing that was there; the card ties the listed tables date.lengths and holiday.moves to the program's text. Conditions: none but the statement's own (its given rows).
-/
import Derived.Test.YtkcmkpljpmfiaaaDoorCaH
import Derived.Test.YtkcmkpljpmfiaaaDoorRow
import Derived.Test.YtkcmkpljpmfiaaaDoorRows
import Derived.Test.YtkcmkpljpmfiaaaDoorTie
import Derived.Test.YtkcmkpljpmfiaaaDoorCards
import Derived.WalkKit
import Derived.ProofKit
import Derived.OpenShut
import Derived.ShutString
import Derived.ChangeOld
import Derived.Below
import Derived.LaidMore
import Derived.Stop.Joined
import Derived.SevenTiedAt
namespace Go.Proofs.YtkcmkpljpmfiaaaDoor.tollingCourts
open Go.ChangeShapes Go.WideShapes Go.ChangeAt Go.RowKit Go.WideMaps Go.WideElems
open Go.ChangeMaps (open_string shut_string)
set_option linter.unusedVariables false

theorem own : ownKnob Tryd.prog.godebug = none := by kernel_rfl
theorem laidOut : laidOutB Tryd.prog = true := by kernel_rfl

theorem len_eq {H : Type} : (Rows.laid_rollbook_date_lengths : DataW H) = .agg (lenTab.map fun n => .lit (.int .i64 n)) := rfl
theorem mov_eq {H : Type} : (Rows.laid_rollbook_holiday_moves : DataW H) = .agg ((List.range 3).map fun i => .agg ((List.range 7).map fun j => .lit (.int .i64 (movTab.getD (i * 7 + j) 0)))) := rfl
theorem gLen : Tryd.prog.globalNamed "rollbook/date.lengths" = some 1 := by kernel_rfl
theorem gMov : Tryd.prog.globalNamed "rollbook/holiday.moves" = some 0 := by kernel_rfl
theorem tLen : (Tryd.prog.globals[1]?).map (·.type) = some 123 := by kernel_rfl
theorem tMov : (Tryd.prog.globals[0]?).map (·.type) = some 105 := by kernel_rfl

/-- The door's own heap meets the condition: three closed facts. -/
theorem door_met (os : Os) (args : Array Value) : laidMetH Tryd.prog [("rollbook/date.lengths", Rows.laid_rollbook_date_lengths), ("rollbook/holiday.moves", Rows.laid_rollbook_holiday_moves)] ((World.doorLaid Tryd.prog 400 os).forCall (fun _ _ => 0) ⟨#[], args, []⟩).memory :=
  laidMetH_of_parts3 (fuel := 8) (laidMet_of_run' 8 (by kernel_rfl) (by kernel_rfl)) (by kernel_rfl) (by kernel_rfl)

theorem int_arr {W : World} {t n fuel : Nat} {cs : List Value} {ks : List Int} {p : List MemPlace} (hu : Tryd.prog.underlying t = some (.array n 3))
    (hd : DataW.trod (fun _ => ()) Tryd.prog W 0 (fun _ => true) false fuel t cs = some (.agg (ks.map fun k => .lit (.int .i64 k)), p)) (hn : ks.length = n) :
    ∀ j (hj : j < ks.length), cs[j]? = some (.int .i64 ks[j]) := by
  obtain ⟨xs, m1, rfl, hx1, hlen, hn3, hel⟩ := DataW.trod_array hu hd
  have ce : Tryd.prog.cellsOf 3 = 1 := by kernel_rfl
  simp only [Prod.mk.injEq, DataW.agg.injEq] at hx1
  have hx2 := hx1.1
  intro j hj
  have hjx : j < xs.length := by omega
  have h0 := hel j (by omega)
  rw [List.getElem?_eq_getElem hjx, ce, Nat.mul_one] at h0
  obtain ⟨k, e1, e2, _⟩ := DataW.trod_int Tryd.underlying3 h0
  have e3 : (xs.map (·.1))[j]? = (ks.map fun n => DataW.lit (Lit.int .i64 n))[j]? := by rw [hx2]
  rw [List.getElem?_map, List.getElem?_map, List.getElem?_eq_getElem hjx, List.getElem?_eq_getElem hj, e2] at e3
  simp only [Option.map_some, Option.some.injEq, DataW.lit.injEq, Lit.int.injEq, true_and] at e3
  have e4 : (cs.drop j)[0]? = some (.int .i64 k) := by
    have e5 := congrArg (fun l => l[0]?) e1
    simpa [List.getElem?_take] using e5
  rw [List.getElem?_drop, Nat.add_zero] at e4
  rw [← e3]
  simpa using e4
/-- What the condition gives the walk: the tables' cells. -/
theorem of_laid {W : World} (h : laidMetH Tryd.prog [("rollbook/date.lengths", Rows.laid_rollbook_date_lengths), ("rollbook/holiday.moves", Rows.laid_rollbook_holiday_moves)] W) : Tabs W := by
  rw [MakeChecks.laidMetH_plain _ _ _ (by kernel_rfl)] at h
  obtain ⟨ps, ⟨g0, t0, cs0, f0, p0, q0, hg0, ht0, hv0, hd0, h1, -⟩, -, -⟩ := h
  obtain ⟨g1, t1, cs1, f1, p1, q1, hg1, ht1, hv1, hd1, -, -⟩ := h1
  obtain rfl := Option.some.inj (gLen.symm.trans hg0)
  obtain rfl := Option.some.inj (tLen.symm.trans ht0)
  obtain rfl := Option.some.inj (gMov.symm.trans hg1)
  obtain rfl := Option.some.inj (tMov.symm.trans ht1)
  rw [len_eq] at hd0
  have hl := int_arr Tryd.underlying123 hd0 rfl
  obtain ⟨ys, m2, rfl, hy1, hlen2, hn4, hel2⟩ := DataW.trod_array Tryd.underlying105 hd1
  have ce7 : Tryd.prog.cellsOf 104 = 7 := by kernel_rfl
  simp only [Prod.mk.injEq] at hy1
  have hy2 := hy1.1
  rw [mov_eq] at hy2
  simp only [DataW.agg.injEq] at hy2
  refine ⟨fun j v hv => ?_, fun j v hv => ?_⟩
  · obtain ⟨n, hn, rfl⟩ : ∃ n, movTab[j]? = some n ∧ Value.int .i64 n = v := by simpa using hv
    obtain ⟨hj, rfl⟩ := List.getElem?_eq_some_iff.1 hn
    have hj21 : j < 21 := hj
    have hi3 : j / 7 < 3 := by omega
    have hiy : j / 7 < ys.length := by omega
    have h0 := hel2 (j / 7) (by omega)
    rw [List.getElem?_eq_getElem hiy, ce7] at h0
    have e3 : (((List.range 3).map fun i => DataW.agg ((List.range 7).map fun j => DataW.lit (H := Unit) (.int .i64 (movTab.getD (i * 7 + j) 0))))[j / 7]? : Option (DataW Unit)) = (ys.map (·.1))[j / 7]? := by rw [hy2]
    rw [List.getElem?_map, List.getElem?_map, List.getElem?_eq_getElem hiy, List.getElem?_eq_getElem (by simpa using hi3), List.getElem_range] at e3
    simp only [Option.map_some, Option.some.injEq] at e3
    have h1 : DataW.trod (fun _ => ()) Tryd.prog W 0 (fun _ => true) false m2 104 (List.take 7 (List.drop (j / 7 * 7) cs1.toList)) = some (.agg (((List.range 7).map fun q => movTab.getD (j / 7 * 7 + q) 0).map fun k => .lit (.int .i64 k)), ys[j / 7].2) := by
      rw [h0, List.map_map]
      rw [show ys[j / 7] = (ys[j / 7].1, ys[j / 7].2) from rfl, ← e3]
      rfl
    have h2 := int_arr Tryd.underlying104 h1 (by simp) (j % 7) (by simp; omega)
    rw [List.getElem?_take, if_pos (by omega), List.getElem?_drop, List.getElem_map, List.getElem_range, show j / 7 * 7 + j % 7 = j by omega] at h2
    rw [Nat.zero_add, World.var?_cell hg1 hv1 j]
    rw [List.getD_eq_getElem?_getD, List.getElem?_eq_getElem hj, Option.getD_some] at h2
    simpa using h2
  · obtain ⟨n, hn, rfl⟩ : ∃ n, lenTab[j]? = some n ∧ Value.int .i64 n = v := by simpa using hv
    obtain ⟨hj, rfl⟩ := List.getElem?_eq_some_iff.1 hn
    rw [Nat.zero_add, World.var?_cell hg0 hv0 j]
    simpa using hl j hj

/-- WHAT THE WALK IS TOLD OF A SLICE OF INTEGERS THAT CAME IN: it is nil; or it leads to a row of 'cap' cells, the numbers 'zs' (the first 'len' are its elements, the rest its spare room), each fitting its kind. -/
def IsRow (k : IntKind) (w : World) (a : Option Addr) (len cap : Nat) (zs : List Int) : Prop :=
  (a = none ∧ len = 0 ∧ cap = 0 ∧ zs = []) ∨
  ∃ x, a = some x ∧ len ≤ cap ∧ cap ≤ maxLen ∧ zs.length = cap ∧ (∀ i, i < zs.length → w.cell? (x.add i) = some (.int k (zs.getD i 0))) ∧ ∀ n ∈ zs, (Lit.int k n).wf = true

theorem walk (a0 : Option Addr) (len0 cap0 : Nat) (z0 : List Int) (a1 : Int) (a2 : Int) (w : World) (w0 : IsRow .i64 w a0 len0 cap0 z0) (w1 : (Lit.int .i64 a1).wf = true) (w2 : (Lit.int .i64 a2).wf = true) (hL : Tabs w) :
    Calls Tryd.prog 3 #[.slice a0 len0 cap0, .int .i64 a1, .int .i64 a2] w fun e w' => e = .returned (.bool true) ∧ Below w.heap.size w w' := by
  obtain ⟨xs, hx, hw⟩ := isInts_of_row w0
  exact tollingCourts_any xs _ a1 a2 w hx hw (i64_of_wf w1) (i64_of_wf w2) hL

/-! ### THE ROW's STEP: WRITTEN OUT: LEAVE IT -/
set_option maxRecDepth 100000 in
theorem lifted (os : Os) (started : os.Started) (H : Type) (enc : TypeId × Value → H) :
    ReturnsInHanded {} Tryd.checked os 3 .any (fun w args => (Rows.tollingCourtsSpec.pre enc Tryd.prog Tryd.f3 [] false w args ∧ laidMetH Tryd.prog [("rollbook/date.lengths", Rows.laid_rollbook_date_lengths), ("rollbook/holiday.moves", Rows.laid_rollbook_holiday_moves)] w) ∧ sizedMet enc Tryd.prog Tryd.f3 (OpenSpec.ofChange Rows.tollingCourtsSpec) false w args)
      (Rows.tollingCourtsSpec.post enc Tryd.prog Tryd.f3 false true false false) := by
  refine returnsInHanded_of_change_and (C := Tryd.checked) (X := fun w _ => laidMetH Tryd.prog [("rollbook/date.lengths", Rows.laid_rollbook_date_lengths), ("rollbook/holiday.moves", Rows.laid_rollbook_holiday_moves)] w) (fun _ _ _ hh h => h.of_heap hh) own started (by kernel_rfl) Tryd.func3
    (ChangeSpec.witness_shaped (enc := enc) (C := Tryd.checked) (os := os) (X := fun w _ => laidMetH Tryd.prog [("rollbook/date.lengths", Rows.laid_rollbook_date_lengths), ("rollbook/holiday.moves", Rows.laid_rollbook_holiday_moves)] w) false (World.doorLaid Tryd.prog 400 os) #[.slice none 0 0, .int .i64 0, .int .i64 0] 8 rfl (World.shaped_of_RefB (by kernel_rfl) (by kernel_rfl)) (by kernel_rfl) (by kernel_rfl) (by kernel_rfl) (door_met os _)) ?_
  intro W base args ds gs before hval0 hW hcnd _ hL _
  have hval : ∀ (j : Nat) t v, Tryd.f3.params[j]? = some t → args[j]? = some v → Value.okWide Tryd.prog W .any base t v := hval0
  have hW' := hW
  obtain ⟨p, q, hA0, hV, rfl, hfz, hnd⟩ := hW
  have hA : DataW.TrodAll enc Tryd.prog W 0 (fun _ => true) true Tryd.f3.params.toList args.toList ds p := hA0
  rw [Tryd.params3] at hA hval
  obtain ⟨v0, vs0, d0, ds0, p0, q0, hargs, rfl, rfl, h0, r0⟩ := trodAll_cons hA
  obtain ⟨v1, vs1, d1, ds1, p1, q1, rfl, rfl, rfl, h1, r1⟩ := trodAll_cons r0
  obtain ⟨v2, vs2, d2, ds2, p2, q2, rfl, rfl, rfl, h2, r2⟩ := trodAll_cons r1
  obtain ⟨rfl, rfl, rfl⟩ := trodAll_nil r2
  obtain rfl : args = #[v0, v1, v2] := by cases args; simp_all
  obtain ⟨rfl, rfl⟩ := trodVars_none hV
  obtain ⟨a0, len0, cap0, rfl⟩ := okWide_slice Tryd.underlying22 (hval 0 22 v0 rfl rfl)
  have k0 := h0
  have lt0 : ∀ x ∈ p0, x.block < W.heap.size := by obtain ⟨m, hm⟩ := k0; exact DataW.trod_lt m _ _ _ hm
  obtain ⟨z0, w0⟩ : ∃ zs, IsRow .i64 W a0 len0 cap0 zs := by
    obtain ⟨fuel, hf⟩ := h0
    rcases open_ints Tryd.underlying22 Tryd.underlying3 (by kernel_rfl) hf with ⟨hcs, _⟩ | ⟨x, l, c, zs, hcs, _, hl, hm, hz, _, hcell, hwz⟩
    · simp [Value.cells] at hcs
      obtain ⟨rfl, rfl, rfl⟩ := hcs
      exact ⟨[], .inl ⟨rfl, rfl, rfl, rfl⟩⟩
    · simp [Value.cells] at hcs
      obtain ⟨rfl, rfl, rfl⟩ := hcs
      exact ⟨zs, .inr ⟨_, rfl, hl, hm, by simpa using hz, hcell, hwz⟩⟩
  obtain ⟨a1, rfl, rfl, rfl, w1⟩ := open_int Tryd.underlying3 (hval 1 3 v1 rfl rfl) h1
  obtain ⟨a2, rfl, rfl, rfl, w2⟩ := open_int Tryd.underlying3 (hval 2 3 v2 rfl rfl) h2
  clear hA0 hval0
  refine (walk a0 len0 cap0 z0 a1 a2 W w0 w1 w2 (of_laid hL)).mono fun e W' ⟨he, bel⟩ => ?_
  subst he
  exact ⟨_, rfl, _, _, _, [], _, [], hW', trodAll_mk1 (shut_bool Tryd.underlying4 _), (trodAll_cons_mk (Below.trod laidOut (by kernel_rfl) (of_decide_eq_true (by kernel_rfl)) k0 bel lt0) (trodAll_cons_mk (shut_int Tryd.underlying3 w1) (trodAll_cons_mk (shut_int Tryd.underlying3 w2) trodAll_mk0))), rfl, bel.frame _, fun h => by cases h⟩

theorem over : Rows.tollingCourtsRow.holds Tryd.pinned (OpenSpec.ofChange Rows.tollingCourtsSpec) :=
  OpenClaim.holds_of_wide 3 Tryd.f3 rfl rfl rfl rfl rfl rfl rfl ⟨rfl, rfl, rfl, rfl, rfl⟩ rfl rfl rfl rfl rfl (by kernel_rfl) Tryd.func3 (by kernel_rfl)
    (of_decide_eq_true (by kernel_rfl)) (by unfold Func.isWrapper; first | (rw [if_pos (by decide +kernel)]; kernel_rfl) | (rw [if_neg (by decide +kernel)]; exact ⟨rfl, rfl⟩))
    (fun os started H enc _ => lifted os started H enc)

/-- ████ THE STATEMENT ████ -/
theorem proved : Rows.TollingCourtsCardSaid :=
  Claim7.holds_tied_plain_at .later [] [.data, .data] true (true, "a9e8e8c1545d8af1ac222b61c5080465a0962fd962546bf314fcb46e665e40ca") false
    over (fun _ h => by cases h) (by kernel_rfl) (fun _ h => by cases h) tollingCourts_row_tie rfl ⟨rfl, rfl⟩ (by kernel_rfl) rfl
    (fun f fn hf hfn => by
      obtain rfl : f = 3 := Option.some.inj ((show Tryd.prog.funcNamed "rollbook/rollbooklaw17.TollingCourts" = some 3 by kernel_rfl).symm.trans hf) |>.symm
      obtain rfl : fn = Tryd.f3 := (Option.some.inj (Tryd.func3.symm.trans hfn)).symm
      exact ⟨by kernel_rfl, fun j t ht => by
        rw [Tryd.params3] at ht
        have hm : t ∈ [22, 3, 3] := by simpa using Array.mem_of_getElem? ht
        have hall : ([22, 3, 3].all fun u => !Tryd.prog.wantsStandIn u) = true := by kernel_rfl
        exact (show Tryd.prog.wantsStandIn t = false by simpa using List.all_eq_true.1 hall t hm)⟩)
    (by kernel_rfl)
#print axioms proved
end Go.Proofs.YtkcmkpljpmfiaaaDoor.tollingCourts
