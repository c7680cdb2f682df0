/-
  The reference of zones: Zone makes a zone with up to 20 shifts, which are the call's own.
-/
import Derived.Test.YtkcmkpljpmfiaaaDoorPkA
import Derived.Test.YtkcmkpljpmfiaaaDoorSpn
namespace Go.Proofs.YtkcmkpljpmfiaaaDoor
open Go.RowKit

theorem infoShf : (Tryd.prog.info? 51).map (fun i => (i.zero, i.size, i.bytes)) = some (some (.agg #[.int .i64 0, .int .i64 0]), 2, 16) := by kernel_rfl
theorem spCells_one1 (x : Int × Int) : spCells [x] = spRow x := by simp [spCells]
theorem spRow_one1 (x : Int × Int) : ∀ u ∈ spRow x, u.oneCell' = true := by
  rw [← spCells_one1]; exact spCells_one [x]
theorem row_set {w : World} {B i t : Nat} {cs : Array Value} {fr : Nat × Nat} (h : w.heap[B]? = some (.cells cs t fr)) (v : Value) : (w.setCell ⟨B, i, none⟩ v).heap[B]? = some (.cells (cs.setIfInBounds i v) t fr) := by
  obtain ⟨hlt, h'⟩ := Array.getElem?_eq_some_iff.1 h
  simp only [World.setCell]
  rw [Array.getElem?_modify, if_pos rfl, h]
  rfl
theorem row_other {w : World} {B B' i : Nat} (hne : B ≠ B') (v : Value) : (w.setCell ⟨B', i, none⟩ v).heap[B]? = w.heap[B]? := Below.heap_setCell _ _ _ _ hne
def litShf (x y : Int) : Array Value := #[.int .i64 x, .int .i64 y]

set_option maxHeartbeats 1000000 in
set_option maxRecDepth 100000 in
theorem zone_any (l : List Int) (v : Value) (w : World) (hx : IsInts w v l) (hl : ∀ x ∈ l, I64 x) :
    Calls Tryd.prog 12 #[v] w fun e w' => ∃ x y, e = .returned (.agg #[.int .i64 x, y]) ∧ ∃ xs : List (Int × Int), w'.ownsRow w.heap.size 51 2 y xs.length (spCells xs) ∧ xs.length ≤ 20 ∧ Below w.heap.size w w' := by
  have HX := Lib.hid hx
  have HPK : Hid (∀ W, IsInts W v l → Calls Tryd.prog 19 #[v, .int .i64 0, .int .i64 1801] W fun e w' => e = .returned (.int .i64 (pickF l 0 1801)) ∧ W = w') := fun W h => pick3_any l v 0 1801 W h hl (by omega) (by omega) (by omega)
  have HAR : Hid (∀ (i : Nat) (h : i < l.length) (most : Int) W, 1 ≤ most → Calls Tryd.prog 20 #[.int .i64 l[i], .int .i64 most] W fun e w' => e = .returned (.int .i64 (around l[i] most)) ∧ W = w') := fun i h most W hm => around3_any _ _ (hl _ (List.getElem_mem h)) hm W
  obtain ⟨hz0, hz1⟩ := pickF_in l 0 1801 (by omega)
  obtain ⟨a, cap, rfl, hm, -, -⟩ := hx.open
  unfold maxLen at hm
  clear hx hl
  obtain ⟨P, hP⟩ : ∃ P, P = w.heap.size := ⟨_, rfl⟩
  generalize pickF l 0 1801 = P0 at *
  go_enter Tryd.func12, Tryd.ntmps12
  go_wp2_with fail
  refine (HPK.out _ (HX.out.below ((Below.refl _ _).alloc (Nat.le_refl _) _))).mono ?_
  rintro e w' ⟨rfl, rfl⟩
  obtain ⟨W1, hW1⟩ : ∃ W1, W1 = (w.alloc (.cells #[.int .i64 0, .slice none 0 0] 28)).alloc (.cells #[.int .i64 (P0 - 900), .slice none 0 0] 28) := ⟨_, rfl⟩
  have hb1 : Below P w W1 := by rw [hW1, hP]; exact ((Below.refl _ _).alloc (Nat.le_refl _) _).alloc (by simp) _
  have hs1 : W1.heap.size = P + 2 := by rw [hW1, hP]; simp
  have q0 : W1.heap[P]? = some (.cells #[.int .i64 0, .slice none 0 0] 28 (0, 0)) := by rw [hW1, hP]; exact (Below.heap_alloc _ _ _ (by simp)).trans (heap_alloc_new w _)
  have q1 : W1.heap[P + 1]? = some (.cells #[.int .i64 (P0 - 900), .slice none 0 0] 28 (0, 0)) := by
    have h := heap_alloc_new (w.alloc (.cells #[.int .i64 0, .slice none 0 0] 28)) (.cells #[.int .i64 (P0 - 900), .slice none 0 0] 28)
    rw [World.size_alloc, ← hW1, ← hP] at h
    exact h
  have HW1 := Lib.hid hW1
  have HP := Lib.hid hP
  have HB1 := Lib.hid hb1
  have HS1 := Lib.hid hs1
  have HQ0 := Lib.hid q0
  have HQ1 := Lib.hid q1
  clear hW1 hP hb1 hs1 q0 q1 HPK
  go_wp2_with fail
  rw [← HW1.out, ← HP.out]
  have HEND : Hid (∀ (wr : World) (y : Value) (xs : List (Int × Int)) (j : Nat), xs.length = j → j ≤ 20 → wr.ownsRow (P + 2) 51 2 y j (spCells xs) → wr.heap[P]? = some (.cells #[.int .i64 0, .slice none 0 0] 28 (0, 0)) → Below P w wr → ((wr.setCell ⟨P, 0, none⟩ (.int .i64 (P0 - 900))).setCell ⟨P, 1, none⟩ y).heap[P]? = some (.cells #[.int .i64 (P0 - 900), y] 28 (0, 0)) ∧ (∃ xs : List (Int × Int), ((wr.setCell ⟨P, 0, none⟩ (.int .i64 (P0 - 900))).setCell ⟨P, 1, none⟩ y).ownsRow w.heap.size 51 2 y xs.length (spCells xs) ∧ xs.length ≤ 20 ∧ Below w.heap.size w ((wr.setCell ⟨P, 0, none⟩ (.int .i64 (P0 - 900))).setCell ⟨P, 1, none⟩ y))) := fun wr y xs j h1 h2 h3 h4 h5 => by
    refine ⟨row_set (row_set h4 _) _, xs, ?_, by omega, ?_⟩
    · rw [h1, ← HP.out]
      exact owns_mono (owns_setCell (owns_setCell h3 (by show P < P + 2; omega) _) (by show P < P + 2; omega) _) (Nat.le_add_right P 2)
    · rw [← HP.out]
      exact (h5.setCell (p := ⟨P, 0, none⟩) (Nat.le_refl _) _).setCell (p := ⟨P, 1, none⟩) (Nat.le_refl _) _
  go_loopw [4, 5] (fun o i wr => ∃ (j m : Nat) (t : Int) (y : Value) (xs : List (Int × Int)), o = .int .i64 t ∧ i = .int .i64 (m : Nat) ∧ m ≤ 2 * j + 1 ∧ 2 * j + 1 ≤ m ∧ j ≤ 20 ∧ 0 ≤ t ∧ t ≤ 30000 * (j : Int) ∧ xs.length = j ∧ Hid (wr.ownsRow (P + 2) 51 2 y j (spCells xs)) ∧ Hid (wr.heap[P]? = some (.cells #[.int .i64 0, .slice none 0 0] 28 (0, 0))) ∧ Hid (wr.heap[P + 1]? = some (.cells #[.int .i64 (P0 - 900), y] 28 (0, 0))) ∧ Hid (Below P w wr) ∧ Hid (P + 2 ≤ wr.heap.size)) (fun _ i _ => 50 - (intOf i).toNat)
  case atStart => exact ⟨0, 1, 0, _, [], rfl, rfl, by omega, by omega, by omega, by omega, by omega, rfl, Lib.hid (World.ownsRow_nil _ _ _ _), HQ0, HQ1, HB1, Lib.hid (Nat.le_of_eq HS1.out.symm)⟩
  case round =>
    obtain ⟨j, m, t, y, xs, rfl, rfl, hm1, hm2, hj, ht0, ht1, hxj, HO, H0, H1, HB, HS⟩ := hrel
    by_cases hlt : (m : Int) + 1 < (l.length : Int)
    · by_cases h40 : j < 20
      · have h41 : (m : Int) < 41 := by omega
        have hi1 : m < l.length := by omega
        obtain ⟨n, hn1, hn2⟩ : ∃ n, n ≤ m + 1 ∧ m + 1 ≤ n := ⟨_, Nat.le_refl _, Nat.le_refl _⟩
        have hi2 : n < l.length := by omega
        have hi2I : (n : Int) < (l.length : Int) := by omega
        obtain ⟨_, c9, e9, -, -, hc⟩ := (HX.out.below (HP.out ▸ HB.out)).open
        obtain ⟨b5, o5, rfl, d1⟩ := hc m hi1
        obtain ⟨b6, o6, e6, d2⟩ := hc n hi2
        simp only [Value.slice.injEq, true_and] at e9
        obtain ⟨rfl, rfl⟩ := e9
        cases e6
        have hw2 : IntKind.i64.wrap ((m : Int) + 1) = (n : Int) := by rw [IntKind.wrap_i64]; omega
        have HA1 := Lib.hid (HAR.out m hi1 20000)
        have HA2 := Lib.hid (HAR.out n hi2 1801)
        have hy0 := around_lo l[m] 20000 (by omega)
        have hy1 := around_hi l[m] 20000 (by omega)
        have hy2 := around_lo l[n] 1801 (by omega)
        have hy3 := around_hi l[n] 1801 (by omega)
        generalize l[m] = x1 at *
        generalize l[n] = x2 at *
        generalize around x1 20000 = y1 at *
        generalize around x2 1801 = y2 at *
        clear hc
        obtain ⟨a3, c3, rfl, hjc, hjm⟩ := owns_slice HO.out
        have e1 : wr.cell? ⟨P + 1, 1, none⟩ = some (.slice a3 j c3) := by simp [World.cell?, H1.out]
        have e2 : wr.frozen? ⟨P + 1, 1, none⟩ = false := by simp [World.frozen?, H1.out]
        have e3 : (wr.alloc (.cells #[.int .i64 (t + y1), .int .i64 (y2 - 900)] 51)).cell? ⟨P + 1, 1, none⟩ = some (.slice a3 j c3) := (((Below.refl _ _).alloc (Nat.le_refl _) _).cell (p := ⟨P + 1, 1, none⟩) (World.block_lt_of_cell? _ _ e1)).trans e1
        have hq : IntKind.i64.wrap (y2 - 900) = y2 - 900 := by rw [IntKind.wrap_i64]; omega
        have HN1 : Hid (j + 1 ≤ maxLen) := (by show _ ≤ _; unfold maxLen; omega)
        have HN2 : Hid ((j + 1) * 16 ≤ 140737488355328) := (by show _ ≤ _; omega)
        have HSZ : Hid (P ≤ wr.heap.size) := Nat.le_trans (by omega) HS.out
        have HBA : Hid (∀ X : Obj, Below wr.heap.size wr ((wr.alloc X).drew)) := fun X => ((Below.refl _ _).alloc (Nat.le_refl _) _).drew
        have HSA : Hid (∀ X : Obj, P + 2 ≤ ((wr.alloc X).drew).heap.size) := fun X => Nat.le_trans HS.out (HBA.out X).size
        have HRA : Hid (Rd ((wr.alloc (.cells (litShf (t + y1) (y2 - 900)) 51)).drew) (.slice (some ⟨wr.heap.size, 0, none⟩) 1 1) 2 1 (spRow (t + y1, y2 - 900))) := (Rd.lit wr (litShf (t + y1) (y2 - 900)) 51 2 1 rfl (by unfold maxLen; omega)).below ((Below.refl _ _).drew)
        have HKP : Hid (∀ (X : Obj) (w8 : World), ((wr.alloc X).drew).grownBy w8 (Value.slice a3 j c3).ownBlock → w8.cell? ⟨P + 1, 1, none⟩ = some (.slice a3 j c3) ∧ w8.frozen? ⟨P + 1, 1, none⟩ = false ∧ w8.heap[P]? = some (.cells #[.int .i64 0, .slice none 0 0] 28 (0, 0)) ∧ w8.heap[P + 1]? = some (.cells #[.int .i64 (P0 - 900), .slice a3 j c3] 28 (0, 0))) := fun X w8 hg => by
          have hsz := HS.out
          have hs8 := (HBA.out X).size
          have hne : ∀ k, k < P + 2 → (Value.slice a3 j c3).ownBlock ≠ some k := fun k hk hb => by
            have := (HO.out.lt k hb).1
            omega
          have r0 := (hg.block P (by omega) (hne P (by omega)).symm).trans (((HBA.out X).block P (by omega)).trans H0.out)
          have r1 := (hg.block (P + 1) (by omega) (hne (P + 1) (by omega)).symm).trans (((HBA.out X).block (P + 1) (by omega)).trans H1.out)
          exact ⟨by simp [World.cell?, r1], by simp [World.frozen?, r1], r0, r1⟩
        go_wp2_with fail
        refine (HA1.out _ (by omega)).mono ?_
        rintro e w' ⟨rfl, rfl⟩
        go_wp2_with fail
        go_region_law
          (first
            | (refine step_append_rd (by rfl) _ _ 26 (by rfl) (P + 2) 51 _ 2 16 Tryd.underlying26 infoShf rfl (by decide) (.slice a3 j c3) j (spCells xs) (by rfl) (owns_below HO.out (HBA.out _)) _ 1 (spRow (t + y1, y2 - 900)) (by rfl) HRA.out (spRow_one1 _) HN1.out HN2.out (HSA.out _) ?_
               intro v8 w8 hv8 hg8
               obtain ⟨a8, c8, rfl, -, -⟩ := owns_slice hv8
               have HV8 := Lib.hid hv8
               have HB8 := Lib.hid (below_append (Below.to HB.out (HBA.out _) HSZ.out) (owns_mono (owns_below HO.out (HBA.out _)) (Nat.le_add_right P 2)) hg8 (Nat.le_trans (Nat.le_add_right P 2) (HSA.out _)))
               obtain ⟨z1, z2, z3, z4⟩ := HKP.out _ _ hg8
               have HZ3 := Lib.hid z3
               have HZ4 := Lib.hid z4
               clear hv8 hg8 z3 z4)
            | (go_simp
               go_at_call 20
               refine (HA2.out _ (by omega)).mono ?_
               rintro e w' ⟨rfl, rfl⟩))
        all_goals
          have H18 : Hid ((w8.setCell ⟨P + 1, 1, none⟩ (.slice a8 (j + 1) c8)).heap[P + 1]? = some (.cells #[.int .i64 (P0 - 900), .slice a8 (j + 1) c8] 28 (0, 0))) := row_set HZ4.out _
          have H08 : Hid ((w8.setCell ⟨P + 1, 1, none⟩ (.slice a8 (j + 1) c8)).heap[P]? = some (.cells #[.int .i64 0, .slice none 0 0] 28 (0, 0))) := (row_other (by omega) _).trans HZ3.out
          have HO8 : Hid ((w8.setCell ⟨P + 1, 1, none⟩ (.slice a8 (j + 1) c8)).ownsRow (P + 2) 51 2 (.slice a8 (j + 1) c8) (j + 1) (spCells (xs ++ [(t + y1, y2 - 900)]))) := by
            show World.ownsRow _ _ _ _ _ _ _
            rw [spCells_append, spCells_one1]
            exact owns_setCell HV8.out (by show P + 1 < P + 2; omega) _
          have HB9 : Hid (Below P w (w8.setCell ⟨P + 1, 1, none⟩ (.slice a8 (j + 1) c8))) := HB8.out.setCell (p := ⟨P + 1, 1, none⟩) (by show P ≤ P + 1; omega) _
          have HS9 : Hid (P + 2 ≤ (w8.setCell ⟨P + 1, 1, none⟩ (.slice a8 (j + 1) c8)).heap.size) := by
            have h := (Array.getElem?_eq_some_iff.1 H18.out).1
            show _ ≤ _
            omega
          clear HV8 HB8 HZ3 HZ4 z1 z2 e1 e2 e3 d1 d2
          have hq9 : IntKind.i64.wrap (t + y1 + 2880) = t + y1 + 2880 := by rw [IntKind.wrap_i64]; omega
          have hw3 : IntKind.i64.wrap ((m : Int) + 2) = ((m + 2 : Nat) : Int) := by rw [IntKind.wrap_i64]; omega
          go_wp2_with fail
          go_roundw
          case rel => exact ⟨j + 1, m + 2, _, _, _, rfl, by go_num, by omega, by omega, by omega, by omega, by omega, by rw [List.length_append, List.length_singleton]; omega, HO8, H08, H18, HB9, HS9⟩
          case measure => simp [intOf]; omega
      · have h41 : ¬ (m : Int) < 41 := by omega
        have HF := Lib.hid (HEND.out wr y xs j hxj hj HO.out H0.out HB.out)
        obtain ⟨a3, c3, rfl, -, -⟩ := owns_slice HO.out
        have e1 : wr.cell? ⟨P + 1, 0, none⟩ = some (.int .i64 (P0 - 900)) := by simp [World.cell?, H1.out]
        have e2 : wr.cell? ⟨P + 1, 1, none⟩ = some (.slice a3 j c3) := by simp [World.cell?, H1.out]
        have f1 : wr.cell? ⟨P, 0, none⟩ = some (.int .i64 0) := by simp [World.cell?, H0.out]
        have f2 : wr.cell? ⟨P, 1, none⟩ = some (.slice none 0 0) := by simp [World.cell?, H0.out]
        have g1 : wr.frozen? ⟨P, 0, none⟩ = false := by simp [World.frozen?, H0.out]
        have g2 : wr.frozen? ⟨P, 1, none⟩ = false := by simp [World.frozen?, H0.out]
        have hw2 : IntKind.i64.wrap ((m : Int) + 1) = (m : Int) + 1 := by rw [IntKind.wrap_i64]; omega
        clear HEND HO H0 H1
        go_wp2_with fail
        refine bodyPost_ret (results_cell_row rfl _ _ P 28 _ _ _ rfl HF.out.1 Tryd.underlying28 rfl (by kernel_rfl)) rfl ?_
        exact ⟨_, _, rfl, HF.out.2⟩
    · have HF := Lib.hid (HEND.out wr y xs j hxj hj HO.out H0.out HB.out)
      obtain ⟨a3, c3, rfl, -, -⟩ := owns_slice HO.out
      have e1 : wr.cell? ⟨P + 1, 0, none⟩ = some (.int .i64 (P0 - 900)) := by simp [World.cell?, H1.out]
      have e2 : wr.cell? ⟨P + 1, 1, none⟩ = some (.slice a3 j c3) := by simp [World.cell?, H1.out]
      have f1 : wr.cell? ⟨P, 0, none⟩ = some (.int .i64 0) := by simp [World.cell?, H0.out]
      have f2 : wr.cell? ⟨P, 1, none⟩ = some (.slice none 0 0) := by simp [World.cell?, H0.out]
      have g1 : wr.frozen? ⟨P, 0, none⟩ = false := by simp [World.frozen?, H0.out]
      have g2 : wr.frozen? ⟨P, 1, none⟩ = false := by simp [World.frozen?, H0.out]
      have hw2 : IntKind.i64.wrap ((m : Int) + 1) = (m : Int) + 1 := by rw [IntKind.wrap_i64]; omega
      clear HEND HO H0 H1
      go_wp2_with fail
      refine bodyPost_ret (results_cell_row rfl _ _ P 28 _ _ _ rfl HF.out.1 Tryd.underlying28 rfl (by kernel_rfl)) rfl ?_
      exact ⟨_, _, rfl, HF.out.2⟩

end Go.Proofs.YtkcmkpljpmfiaaaDoor
