/-
  The generator of carriers.
-/
import Derived.Test.YtdhiefgbajogcaaRtVG
import Derived.Deep.RegionHeld3
namespace Go.Proofs.Ytdhiefgbajogcaa
open Go.RowKit

theorem infoCar : (Try.prog.info? 53).map (fun i => (i.zero, i.size, i.bytes)) = some (some (.agg #[.int .i64 0, .int .i64 0]), 2, 16) := by kernel_rfl

def GenCar (cs : List (Int × Int)) : Prop := ∀ c ∈ cs, 0 ≤ c.1 ∧ c.1 ≤ 5 ∧ 0 ≤ c.2 ∧ c.2 ≤ 2
theorem GenCar.ok {cs : List (Int × Int)} (h : GenCar cs) : CarOk cs := fun c hc => by have := h c hc; omega

set_option maxHeartbeats 4000000 in
set_option maxRecDepth 100000 in
theorem carriers_any (l : List Int) (v : Value) (w : World) (hx : IsInts w v l) (hl : ∀ x ∈ l, I64 x) :
    Calls Try.prog 12 #[v] w fun e w' => ∃ v', e = .returned v' ∧ ∃ cs, Hid (GenCar cs ∧ 1 ≤ cs.length ∧ cs.length ≤ 4) ∧ IsSps w' v' cs ∧ Below w.heap.size w w' := by
  have HX := Lib.hid hx
  have HPK : Hid (∀ (i : Nat) (most : Int) (W : World), i ≤ 1000000 → 0 < most → most ≤ 1000000000 → IsInts W v l → Calls Try.prog 32 #[v, .int .i64 i, .int .i64 most] W fun e w' => e = .returned (.int .i64 (pickF l i most)) ∧ W = w') := fun i most W h0 h1 h2 h3 => pick_any l v i most W h3 hl h0 h1 h2
  have HPB : Hid (∀ (i : Nat) (most : Int), 0 < most → 0 ≤ pickF l i most ∧ pickF l i most < most) := fun i most h => pickF_in l i most h
  obtain ⟨a, cap, rfl, -, -, -⟩ := hx.open
  clear hx hl
  go_enter Try.func12, Try.ntmps12
  go_wp2_with fail
  go_loopw [3, 4] (fun o i wr => ∃ (j : Nat) (v3 : Value) (cs : List (Int × Int)), v3 = o ∧ i = .int .i64 j ∧ j ≤ 4 ∧ cs.length = j ∧ Hid (GenCar cs) ∧ Hid (wr.ownsRow w.heap.size 53 2 v3 j (spCells cs)) ∧ Hid (Below w.heap.size w wr)) (fun _ i _ => 20 - (intOf i).toNat)
  case atStart => exact ⟨0, _, [], rfl, rfl, by omega, rfl, Lib.hid (fun c hc => by cases hc), Lib.hid (World.ownsRow_nil _ _ _ _), Lib.hid (Below.refl _ _)⟩
  case round =>
    obtain ⟨j, v3, cs, rfl, rfl, hj, hcj, HG, HOW, HBR⟩ := hrel
    have HP0 := Lib.hid (HPK.out 0 4 wr (by omega) (by omega) (by omega) (HX.out.below HBR.out))
    have HP1 := Lib.hid (HPK.out (1 + j) 1000 wr (by omega) (by omega) (by omega) (HX.out.below HBR.out))
    obtain ⟨hb0, hb1⟩ := HPB.out 0 4 (by omega)
    obtain ⟨hd0, hd1⟩ := HPB.out (1 + j) 1000 (by omega)
    generalize pickF l 0 4 = P0 at *
    generalize pickF l (1 + j) 1000 = P1 at *
    by_cases hgo : (j : Int) ≤ P0
    · have hw2 : IntKind.i64.wrap (1 + (j : Int)) = ((1 + j : Nat) : Int) := by rw [IntKind.wrap_i64]; omega
      have hw3 : IntKind.i64.wrap ((j : Int) + 1) = ((j + 1 : Nat) : Int) := by rw [IntKind.wrap_i64]; omega
      obtain ⟨p, rfl⟩ := Int.eq_ofNat_of_zero_le hd0
      obtain ⟨a3, c3, rfl, -, -⟩ := owns_slice HOW.out
      have hsz := HBR.out.size
      go_wp2_with fail
      refine HP0.out.mono ?_
      rintro e w' ⟨rfl, rfl⟩
      go_wp2_with fail
      refine HP1.out.mono ?_
      rintro e w' ⟨rfl, rfl⟩
      go_wp2_with fail
      obtain ⟨k1, hk1⟩ : ∃ k1 : Nat, p % 4 = k1 := ⟨_, rfl⟩
      obtain ⟨q, hq⟩ : ∃ q : Nat, p / 4 = q := ⟨_, rfl⟩
      obtain ⟨k2, hk2⟩ : ∃ k2 : Nat, q % 4 = k2 := ⟨_, rfl⟩
      have hk1' : k1 < 4 := by omega
      have hk2' : k2 < 4 := by omega
      have m1 : Int.tmod (p : Int) 4 = (k1 : Int) := by rw [Int.tmod_eq_emod_of_nonneg (by omega)]; omega
      have m2 : Int.tdiv (p : Int) 4 = (q : Int) := by rw [Int.tdiv_eq_ediv_of_nonneg (by omega)]; omega
      have m3 : Int.tmod (q : Int) 4 = (k2 : Int) := by rw [Int.tmod_eq_emod_of_nonneg (by omega)]; omega
      have n1 : (p : Int) % 4 = (k1 : Int) := by omega
      have n2 : (p : Int) / 4 = (q : Int) := by omega
      have n3 : (q : Int) % 4 = (k2 : Int) := by omega
      have n4 : IntKind.i64.wrap (q : Int) = (q : Int) := by rw [IntKind.wrap_i64]; omega
      obtain ⟨x1, E1, hx0, hx5⟩ : ∃ x1 : Int, (#[.int .i64 0, .int .i64 3, .int .i64 5, .int .i64 2] : Array Value)[k1]? = some (.int .i64 x1) ∧ 0 ≤ x1 ∧ x1 ≤ 5 := by
        rcases (by omega : k1 = 0 ∨ k1 = 1 ∨ k1 = 2 ∨ k1 = 3) with rfl | rfl | rfl | rfl <;> exact ⟨_, rfl, by omega, by omega⟩
      obtain ⟨x2, E2, hy0, hy2⟩ : ∃ x2 : Int, (#[.int .i64 0, .int .i64 0, .int .i64 1, .int .i64 2] : Array Value)[k2]? = some (.int .i64 x2) ∧ 0 ≤ x2 ∧ x2 ≤ 2 := by
        rcases (by omega : k2 = 0 ∨ k2 = 1 ∨ k2 = 2 ∨ k2 = 3) with rfl | rfl | rfl | rfl <;> exact ⟨_, rfl, by omega, by omega⟩
      have i1 : (k1 : Int) < 4 := by omega
      have i2 : (k2 : Int) < 4 := by omega
      have A1 : ∀ X : World, (X.alloc (.cells #[.int .i64 0, .int .i64 3, .int .i64 5, .int .i64 2] 3)).cell? ⟨X.heap.size, k1, none⟩ = some (.int .i64 x1) := fun X => (cells_alloc X _ _ k1).trans E1
      have A2 : ∀ (X : World) (o : Obj), ((X.alloc (.cells #[.int .i64 0, .int .i64 3, .int .i64 5, .int .i64 2] 3)).alloc o).cell? ⟨X.heap.size, k1, none⟩ = some (.int .i64 x1) := fun X o => (((Below.refl _ _).alloc (Nat.le_refl _) o).cell (p := ⟨X.heap.size, k1, none⟩) (by simp)).trans (A1 X)
      have A3 : ∀ (X : World) (o : Obj), ((X.alloc o).alloc (.cells #[.int .i64 0, .int .i64 3, .int .i64 5, .int .i64 2] 3)).cell? ⟨X.heap.size + 1, k1, none⟩ = some (.int .i64 x1) := fun X o => by
        have h := A1 (X.alloc o)
        rw [World.size_alloc] at h
        exact h
      have B1 : ∀ X : World, (X.alloc (.cells #[.int .i64 0, .int .i64 0, .int .i64 1, .int .i64 2] 3)).cell? ⟨X.heap.size, k2, none⟩ = some (.int .i64 x2) := fun X => (cells_alloc X _ _ k2).trans E2
      have B2 : ∀ (X : World) (o : Obj), ((X.alloc (.cells #[.int .i64 0, .int .i64 0, .int .i64 1, .int .i64 2] 3)).alloc o).cell? ⟨X.heap.size, k2, none⟩ = some (.int .i64 x2) := fun X o => (((Below.refl _ _).alloc (Nat.le_refl _) o).cell (p := ⟨X.heap.size, k2, none⟩) (by simp)).trans (B1 X)
      have B3 : ∀ (X : World) (o : Obj), ((X.alloc o).alloc (.cells #[.int .i64 0, .int .i64 0, .int .i64 1, .int .i64 2] 3)).cell? ⟨X.heap.size + 1, k2, none⟩ = some (.int .i64 x2) := fun X o => by
        have h := B1 (X.alloc o)
        rw [World.size_alloc] at h
        exact h
      have HG2 : Hid (GenCar (cs ++ [(x1, x2)])) := fun c hc => by
        rcases List.mem_append.1 hc with h | h
        · exact HG.out c h
        · simp at h; subst h; exact ⟨hx0, hx5, hy0, hy2⟩
      have HRL : Hid (∀ W : World, Rd (W.alloc (.cells (litSp (x1, x2)) 53)) (.slice (some ⟨W.heap.size, 0, none⟩) 1 1) 2 1 (spRow (x1, x2))) := fun W => Rd.lit W (litSp (x1, x2)) 53 2 1 rfl (by unfold maxLen; omega)
      have HN1 : Hid (j + 1 ≤ maxLen) := (by show _ ≤ _; unfold maxLen; omega)
      have HN2 : Hid ((j + 1) * 16 ≤ 140737488355328) := (by show _ ≤ _; omega)
      have HBA : Hid (∀ X1 X2 X3 : Obj, Below wr.heap.size wr (((wr.alloc X1).alloc X2).alloc X3).drew) := fun X1 X2 X3 => ((((Below.refl _ _).alloc (Nat.le_refl _) _).alloc (by simp) _).alloc (by simp; omega) _).drew
      have HSA : Hid (∀ X1 X2 X3 : Obj, w.heap.size ≤ (((wr.alloc X1).alloc X2).alloc X3).drew.heap.size) := fun X1 X2 X3 => Nat.le_trans hsz (HBA.out X1 X2 X3).size
      have HRA : Hid (∀ X1 X2 : Obj, Rd (((wr.alloc X1).alloc X2).alloc (.cells (litSp (x1, x2)) 53)).drew (.slice (some ⟨wr.heap.size + 1 + 1, 0, none⟩) 1 1) 2 1 (spRow (x1, x2))) := fun X1 X2 => by
        have h := (HRL.out ((wr.alloc X1).alloc X2)).below ((Below.refl _ _).drew)
        rw [World.size_alloc, World.size_alloc] at h
        exact h
      go_region_law
        (first
          | (refine step_append_rd (by rfl) _ _ 24 (by rfl) w.heap.size 53 _ 2 16 Try.underlying24 infoCar rfl (by decide) (.slice a3 j c3) j (spCells cs) (by rfl) (owns_below HOW.out (HBA.out _ _ _)) _ 1 (spRow (x1, x2)) (by rfl) (HRA.out _ _) (spCells_one [(x1, x2)]) HN1.out HN2.out (HSA.out _ _ _) ?_
             intro v8 w8 hv8 hg8
             have HV8 := Lib.hid hv8
             have HB8 := Lib.hid (below_append (Below.to HBR.out (HBA.out _ _ _) hsz) (owns_below HOW.out (HBA.out _ _ _)) hg8 (HSA.out _ _ _))
             clear hv8 hg8))
      all_goals
        have HO8 : Hid (w8.ownsRow w.heap.size 53 2 v8 (j + 1) (spCells (cs ++ [(x1, x2)]))) := by
          show World.ownsRow _ _ _ _ _ _ _
          rw [spCells_append, spCells_single]
          exact HV8.out
        clear HV8 HBA HSA HRA A1 A2 A3 B1 B2 B3
        go_wp2_with fail
        go_roundw
        case rel => exact ⟨j + 1, _, _, rfl, by go_num, by omega, by rw [List.length_append, List.length_singleton]; omega, HG2, HO8, HB8⟩
        case measure => simp [intOf]; omega
    · have HF : Hid (GenCar cs ∧ 1 ≤ cs.length ∧ cs.length ≤ 4) := ⟨HG.out, by omega, by omega⟩
      have HV : Hid (IsSps wr v3 cs) := IsSps.of_owns HOW.out
      have hgo' : P0 < (j : Int) := by omega
      go_wp2_with fail
      refine HP0.out.mono ?_
      rintro e w' ⟨rfl, rfl⟩
      go_wp2_with fail
      go_ret
      exact ⟨_, rfl, cs, HF, HV.out, HBR.out⟩

end Go.Proofs.Ytdhiefgbajogcaa
