/-
  ForkGrows: for all integers and all operations the law ForkGrows returns true and writes nothing that was there. Conditions: none but the statement's own (its given rows). The frame was written by the kit's proof-skeleton for a law of the same kind and turned to this one by hand.
-/
import Derived.Test.YtgfnelpfoegdaaaFG5
import Derived.Test.YtgfnelpfoegdaaaOpn
import Derived.Test.YtgfnelpfoegdaaaRows
import Derived.WalkKit
import Derived.ProofKit
import Derived.OpenShut
import Derived.ShutString
import Derived.ChangeOld
import Derived.Below
namespace Go.Proofs.Ytgfnelpfoegdaaa.forkGrows
open Go.ChangeShapes Go.WideShapes Go.ChangeAt Go.RowKit
open Go.ChangeMaps (open_string shut_string)
set_option linter.unusedVariables false

theorem own : ownKnob Try.prog.godebug = none := by kernel_rfl
theorem laidOut : laidOutB Try.prog = true := by kernel_rfl

section
variable {H : Type} {enc : TypeId × Value → H} {w : World} {base : Nat} {spare : Nat → Bool} {held : Bool}

set_option maxRecDepth 100000 in
theorem ops_of_trod {v : Value} {d : DataW H} {p : List MemPlace} {r : Reach} {b0 : Nat} (hval : Value.okWide Try.prog w r b0 39 v) (h : DataW.Trod enc Try.prog w base spare held 39 v d p) :
    ∃ ops, IsOps w v ops := by
  obtain ⟨a0, len0, cap0, rfl⟩ := okWide_slice Try.underlying39 hval
  obtain ⟨fuel, hf⟩ := h
  rcases fields_of_trod Try.underlying39 Try.underlying42 (by kernel_rfl) (by kernel_rfl) hf with hcs | ⟨a, len, cap, hcs, hl, hm, hi⟩
  · simp [Value.cells] at hcs
    obtain ⟨rfl, rfl, rfl⟩ := hcs
    exact ⟨[], none, 0, rfl, by simp, fun i h => absurd h (Nat.not_lt_zero _)⟩
  · simp [Value.cells] at hcs
    obtain ⟨rfl, rfl, rfl⟩ := hcs
    obtain ⟨b, off, spot⟩ := a
    have hall : ∀ i, i < len0 → ∃ x : Int × Int × Int, (w.cell? ((⟨b, off, spot⟩ : Addr).add (i * 3)) = some (.int .i64 x.1) ∧ w.cell? ((⟨b, off, spot⟩ : Addr).add (i * 3 + 1)) = some (.int .i64 x.2.1) ∧ w.cell? ((⟨b, off, spot⟩ : Addr).add (i * 3 + 2)) = some (.int .i64 x.2.2)) ∧ I64 x.1 ∧ I64 x.2.1 := by
      intro i hil
      obtain ⟨n, hj⟩ := hi i hil
      obtain ⟨v0, y0, c0, t0⟩ := hj 0 _ rfl
      obtain ⟨v1, y1, c1, t1⟩ := hj 1 _ rfl
      obtain ⟨v2, y2, c2, t2⟩ := hj 2 _ rfl
      obtain ⟨k0, rfl, h0⟩ := int_of_trod t0
      obtain ⟨k1, rfl, h1⟩ := int_of_trod t1
      obtain ⟨k2, rfl, h2⟩ := int_of_trod t2
      exact ⟨(k0, k1, k2), ⟨c0, c1, c2⟩, h0, h1⟩
    obtain ⟨ls, hlen, hP⟩ := exists_list len0 hall
    subst hlen
    refine ⟨ls, some ⟨b, off, spot⟩, cap0, rfl, by omega, fun i h => ?_⟩
    obtain ⟨⟨c0, c1, c2⟩, h0, h1⟩ := hP i h
    have hspot : spot = none := by
      obtain ⟨⟨z0, -⟩, -⟩ := hP 0 (by omega)
      simpa [Addr.add] using World.cell?_spot z0
    subst hspot
    have e : ∀ k, (⟨b, off, none⟩ : Addr).add k = ⟨b, off + k, none⟩ := fun k => by unfold Addr.add; split <;> simp_all
    rw [e] at c0 c1 c2
    exact ⟨b, off, rfl, World.block_lt_of_cell? _ _ c0, c0, c1, c2, h0, h1⟩
end

/-- WHAT THE WALK IS TOLD OF A SLICE OF INTEGERS THAT CAME IN: it is nil; or it leads to a row of 'cap' cells, the numbers 'zs' (the first 'len' are its elements, the rest its spare room), each fitting its kind. -/
def IsRow (k : IntKind) (w : World) (a : Option Addr) (len cap : Nat) (zs : List Int) : Prop :=
  (a = none ∧ len = 0 ∧ cap = 0 ∧ zs = []) ∨
  ∃ x, a = some x ∧ len ≤ cap ∧ cap ≤ maxLen ∧ zs.length = cap ∧ (∀ i, i < zs.length → w.cell? (x.add i) = some (.int k (zs.getD i 0))) ∧ ∀ n ∈ zs, (Lit.int k n).wf = true

/-! ### STEP 1: THE WALK: the Go text returns true, AND WRITES NOTHING THAT WAS THERE: 'Below w.heap.size w w'' (Derived/Below.lean: '.refl', '.alloc', '.drew', '.setCell' at a new block, '.trans'). Open each 'IsRow' by 'rcases' AHEAD of 'go_enter'; part every test ahead of the walk. -/
theorem walk (a0 : Option Addr) (len0 cap0 : Nat) (z0 : List Int) (v1 : Value) (ops : List (Int × Int × Int)) (w : World) (w0 : IsRow .i64 w a0 len0 cap0 z0) (w1 : IsOps w v1 ops) :
    Calls Try.prog 5 #[.slice a0 len0 cap0, v1] w fun e w' => e = .returned (.bool true) ∧ Below w.heap.size w w' := by
  obtain ⟨xs, hx, hw⟩ := isInts_of_row w0
  exact forkGrows_any xs _ ops v1 w hx hw w1

/-! ### THE ROW's STEP: WRITTEN OUT: LEAVE IT -/
set_option maxRecDepth 100000 in
theorem lifted (os : Os) (started : os.Started) (H : Type) (enc : TypeId × Value → H) :
    ReturnsInHanded {} Try.checked os 5 .any (Rows.forkGrowsSpec.pre6 enc Try.prog Try.f5 Rows.forkGrowsRow.domain false) (Rows.forkGrowsSpec.post enc Try.prog Try.f5 false true false false) := by
  refine returnsInHanded_of_change (C := Try.checked) own started (by kernel_rfl) Try.func5
    (ChangeSpec.witness6 (enc := enc) (C := Try.checked) false ⟨#[], #[.slice none 0 0, .slice none 0 0], []⟩ 8 (by kernel_rfl) (by kernel_rfl) (by kernel_rfl) (by kernel_rfl)) ?_
  intro W base args ds gs before hval0 hW hcnd _
  have hval : ∀ (j : Nat) t v, Try.f5.params[j]? = some t → args[j]? = some v → Value.okWide Try.prog W .any base t v := hval0
  have hW' := hW
  obtain ⟨p, q, hA0, hV, rfl, hfz, hnd⟩ := hW
  have hA : DataW.TrodAll enc Try.prog W 0 (fun _ => true) true Try.f5.params.toList args.toList ds p := hA0
  rw [Try.params5] at hA hval
  obtain ⟨v0, vs0, d0, ds0, p0, q0, hargs, rfl, rfl, h0, r0⟩ := trodAll_cons hA
  obtain ⟨v1, vs1, d1, ds1, p1, q1, rfl, rfl, rfl, h1, r1⟩ := trodAll_cons r0
  obtain ⟨rfl, rfl, rfl⟩ := trodAll_nil r1
  obtain rfl : args = #[v0, v1] := by cases args; simp_all
  obtain ⟨rfl, rfl⟩ := trodVars_none hV
  obtain ⟨a0, len0, cap0, rfl⟩ := okWide_slice Try.underlying23 (hval 0 23 v0 rfl rfl)
  have k0 := h0
  have lt0 : ∀ x ∈ p0, x.block < W.heap.size := by obtain ⟨m, hm⟩ := k0; exact DataW.trod_lt m _ _ _ hm
  obtain ⟨z0, w0⟩ : ∃ zs, IsRow .i64 W a0 len0 cap0 zs := by
    obtain ⟨fuel, hf⟩ := h0
    rcases open_ints Try.underlying23 Try.underlying3 (by kernel_rfl) hf with ⟨hcs, _⟩ | ⟨x, l, c, zs, hcs, _, hl, hm, hz, _, hcell, hwz⟩
    · simp [Value.cells] at hcs
      obtain ⟨rfl, rfl, rfl⟩ := hcs
      exact ⟨[], .inl ⟨rfl, rfl, rfl, rfl⟩⟩
    · simp [Value.cells] at hcs
      obtain ⟨rfl, rfl, rfl⟩ := hcs
      exact ⟨zs, .inr ⟨_, rfl, hl, hm, by simpa using hz, hcell, hwz⟩⟩
  have k1 := h1
  have lt1 : ∀ x ∈ p1, x.block < W.heap.size := by obtain ⟨m, hm⟩ := k1; exact DataW.trod_lt m _ _ _ hm
  obtain ⟨ops, w1⟩ := ops_of_trod (hval 1 39 v1 rfl rfl) h1
  clear hA0 hval0
  refine (walk a0 len0 cap0 z0 v1 ops W w0 w1).mono fun e W' ⟨he, bel⟩ => ?_
  subst he
  exact ⟨_, rfl, _, _, _, [], _, [], hW', trodAll_mk1 (shut_bool Try.underlying4 _), (trodAll_cons_mk (Below.trod laidOut (by kernel_rfl) (of_decide_eq_true (by kernel_rfl)) k0 bel lt0) (trodAll_cons_mk (Below.trod laidOut (by kernel_rfl) (of_decide_eq_true (by kernel_rfl)) k1 bel lt1) trodAll_mk0)), rfl, bel.frame _, fun h => by cases h⟩

theorem over : Rows.forkGrowsRow.holds Try.pinned (OpenSpec.ofChange Rows.forkGrowsSpec) :=
  OpenClaim.holds_of_wide 5 Try.f5 rfl rfl rfl rfl rfl rfl rfl ⟨rfl, rfl, rfl, rfl, rfl⟩ rfl rfl rfl rfl rfl (by kernel_rfl) Try.func5 (by kernel_rfl)
    (of_decide_eq_true (by kernel_rfl)) (by unfold Func.isWrapper; first | (rw [if_pos (by decide +kernel)]; kernel_rfl) | (rw [if_neg (by decide +kernel)]; exact ⟨rfl, rfl⟩))
    (fun os started H enc _ => lifted os started H enc)

/-- ████ THE STATEMENT ████ -/
theorem proved : Rows.ForkGrowsSaid := over
#print axioms proved
end Go.Proofs.Ytgfnelpfoegdaaa.forkGrows
