/-
  merkle.Extends$1 (climb) where m is n and the old tree is whole. (Printed by wip/tools/gen_dgd.py.)
-/
import Derived.Test.YtgfnelpfoegdaaaDoorMkT
import Derived.Deep.RegionHeldLaw
namespace Go.Proofs.YtgfnelpfoegdaaaDoor
open Go.RowKit

theorem results_two_rows {P : Program} {fn : Func} {p q : Tmp} {ty : TypeId} (h : fn.results = #[.cell p ty, .cell q ty]) (tmps : Array Value) (w : World) (g g' : Nat) (t : TypeId) (cs cs' : Array Value) (fr : Nat × Nat) (d : TypeDesc)
    (hp : tmps.getD p undef = .pointer (some ⟨g, 0, none⟩)) (hq : tmps.getD q undef = .pointer (some ⟨g', 0, none⟩)) (hg : w.heap[g]? = some (.cells cs t fr)) (hg' : w.heap[g']? = some (.cells cs' t fr))
    (hu : P.underlying ty = some d) (hd : (match d with | .struct _ | .array _ _ => true | _ => false) = true) (hi : (P.info? ty).map (·.size) = some cs.size) (hi' : (P.info? ty).map (·.size) = some cs'.size) :
    (results fn tmps).run P w = .ok (.tuple #[.agg cs, .agg cs']) w := by
  have hp' : tmps[p]?.getD undef = .pointer (some ⟨g, 0, none⟩) := by simpa using hp
  have hq' : tmps[q]?.getD undef = .pointer (some ⟨g', 0, none⟩) := by simpa using hq
  simp [results, h, hp', hq', asAddr, run_loadVar_row w g t ty cs fr d hg hu hd hi, run_loadVar_row w g' t ty cs' fr d hg' hu hd hi']

theorem NRow.range {w : World} {k : IntKind} {g t : Nat} {xs : List Int} (h : NRow w k g t xs) : w.rangeAt g 0 (xs.map (Value.int k)) := fun j v hv => by
  obtain ⟨x, hx, rfl⟩ : ∃ x, xs[j]? = some x ∧ Value.int k x = v := by simpa using hv
  obtain ⟨hj, rfl⟩ := List.getElem?_eq_some_iff.1 hx
  rw [Nat.zero_add]; exact h.cell hj
theorem NRow.there {w : World} {k : IntKind} {g t n : Nat} {xs : List Int} (h : NRow w k g t xs) (hn : xs.length = n) : w.there g 0 n := fun j hj => by
  rw [Nat.zero_add]
  exact ⟨by rw [h.cell (by omega)]; rfl, h.frozen j⟩
theorem NRow.cells_eq {w : World} {g t : Nat} {xs ys : List Int} (h : NRow w .u8 g t xs) (hx : xs.length = 32) (hy : ys.length = 32) : w.setCells g 0 (ys.map (Value.int .u8)) = w.setRow g (ys.map (Value.int .u8)).toArray := by
  have hi : (Tryd.prog.info? 33).map (·.size) = some (ys.map (Value.int .u8)).toArray.size := by rw [info32]; simp [hy]
  have h1 := run_storeVar_mid (P := Tryd.prog) w g 0 33 (ys.map (Value.int .u8)).toArray (h.there (by simp [hx, hy])) hi (u8_all _)
  have h2 := run_storeVar_row (P := Tryd.prog) w g t 33 _ (ys.map (Value.int .u8)).toArray h hi (by simp [hx, hy]) (u8_all _)
  rw [h1] at h2
  injection h2 with _ e
theorem NRow.setC {w : World} {g t : Nat} {xs ys : List Int} (h : NRow w .u8 g t xs) (hx : xs.length = 32) (hy : ys.length = 32) : NRow (w.setCells g 0 (ys.map (Value.int .u8))) .u8 g t ys := by
  rw [h.cells_eq hx hy]; exact h.store
theorem NRow.setO {w : World} {g g' t : Nat} {xs ys zs : List Int} (h : NRow w .u8 g t xs) (h' : NRow w .u8 g' t zs) (hz : zs.length = 32) (hy : ys.length = 32) (hne : g ≠ g') : NRow (w.setCells g' 0 (ys.map (Value.int .u8))) .u8 g t xs := by
  rw [h'.cells_eq hz hy]; exact (setRow_other w g' g _ hne).trans h
theorem below_setC {B : Nat} {w w' : World} {g t : Nat} {xs ys : List Int} (hb : Below B w w') (h : NRow w' .u8 g t xs) (hx : xs.length = 32) (hy : ys.length = 32) (hg : B ≤ g) : Below B w (w'.setCells g 0 (ys.map (Value.int .u8))) := by
  rw [h.cells_eq hx hy]; exact below_setRow hb g _ hg

set_option maxHeartbeats 1000000 in
set_option maxRecDepth 100000 in
theorem mkClimbOld (old : List Int) (ho : old.length = 32) (m po pt pc : Nat) (w : World) (hr : NRow w .u8 po 33 old) :
    Calls Tryd.prog 36 #[.int .i64 m, .int .i64 m, .bool true, .pointer (some ⟨po, 0, none⟩), .pointer (some ⟨pt, 0, none⟩), .pointer (some ⟨pc, 0, none⟩)] w fun e w' =>
      e = .returned (.tuple #[.agg (old.map (Value.int .u8)).toArray, .agg (old.map (Value.int .u8)).toArray]) ∧ Below w.heap.size w w' := by
  obtain ⟨P, hP⟩ : ∃ P, P = w.heap.size := ⟨_, rfl⟩
  obtain ⟨W1, hW1⟩ : ∃ W1, W1 = (w.alloc (.cells #[.int .u8 0, .int .u8 0, .int .u8 0, .int .u8 0, .int .u8 0, .int .u8 0, .int .u8 0, .int .u8 0, .int .u8 0, .int .u8 0, .int .u8 0, .int .u8 0, .int .u8 0, .int .u8 0, .int .u8 0, .int .u8 0, .int .u8 0, .int .u8 0, .int .u8 0, .int .u8 0, .int .u8 0, .int .u8 0, .int .u8 0, .int .u8 0, .int .u8 0, .int .u8 0, .int .u8 0, .int .u8 0, .int .u8 0, .int .u8 0, .int .u8 0, .int .u8 0] 33)).alloc (.cells #[.int .u8 0, .int .u8 0, .int .u8 0, .int .u8 0, .int .u8 0, .int .u8 0, .int .u8 0, .int .u8 0, .int .u8 0, .int .u8 0, .int .u8 0, .int .u8 0, .int .u8 0, .int .u8 0, .int .u8 0, .int .u8 0, .int .u8 0, .int .u8 0, .int .u8 0, .int .u8 0, .int .u8 0, .int .u8 0, .int .u8 0, .int .u8 0, .int .u8 0, .int .u8 0, .int .u8 0, .int .u8 0, .int .u8 0, .int .u8 0, .int .u8 0, .int .u8 0] 33) := ⟨_, rfl⟩
  have hpo := hr.lt
  have hz1 : NRow W1 .u8 P 33 (List.replicate 32 0) := by rw [hW1, hP]; exact (NRow.new w .u8 33 (List.replicate 32 0)).alloc _
  have hz2 : NRow W1 .u8 (P + 1) 33 (List.replicate 32 0) := by
    have h := NRow.new (w.alloc (.cells #[.int .u8 0, .int .u8 0, .int .u8 0, .int .u8 0, .int .u8 0, .int .u8 0, .int .u8 0, .int .u8 0, .int .u8 0, .int .u8 0, .int .u8 0, .int .u8 0, .int .u8 0, .int .u8 0, .int .u8 0, .int .u8 0, .int .u8 0, .int .u8 0, .int .u8 0, .int .u8 0, .int .u8 0, .int .u8 0, .int .u8 0, .int .u8 0, .int .u8 0, .int .u8 0, .int .u8 0, .int .u8 0, .int .u8 0, .int .u8 0, .int .u8 0, .int .u8 0] 33)) .u8 33 (List.replicate 32 0)
    rw [show (w.alloc (.cells #[.int .u8 0, .int .u8 0, .int .u8 0, .int .u8 0, .int .u8 0, .int .u8 0, .int .u8 0, .int .u8 0, .int .u8 0, .int .u8 0, .int .u8 0, .int .u8 0, .int .u8 0, .int .u8 0, .int .u8 0, .int .u8 0, .int .u8 0, .int .u8 0, .int .u8 0, .int .u8 0, .int .u8 0, .int .u8 0, .int .u8 0, .int .u8 0, .int .u8 0, .int .u8 0, .int .u8 0, .int .u8 0, .int .u8 0, .int .u8 0, .int .u8 0, .int .u8 0] 33)).heap.size = P + 1 by rw [hP]; simp] at h
    rw [hW1]; exact h
  have hb1 : Below P w W1 := by rw [hW1, hP]; exact ((Below.refl _ _).alloc (Nat.le_refl _) _).alloc (by simp) _
  have hr1 : NRow W1 .u8 po 33 old := hr.below hb1 (by omega)
  have hS : W1.drew.rangeAt po 0 (old.map (Value.int .u8)) ∧ W1.drew.there P 0 32 ∧ W1.drew.there (P + 1) 0 32 := ⟨hr1.drew.range, hz1.drew.there rfl, hz2.drew.there rfl⟩
  have hi32 : (Tryd.prog.info? 33).map (·.size) = some (old.map (Value.int .u8)).length := by rw [info32]; simp [ho]
  have hol : (old.map (Value.int .u8)).length = 32 := by simp [ho]
  have hone : ∀ v ∈ old.map (Value.int .u8), v.oneCell' = true := by intro v hv; obtain ⟨x, _, rfl⟩ := List.mem_map.1 hv; rfl
  have hu33 := Tryd.underlying33
  have hne : po ≠ P := by omega
  have hne2 : po ≠ P + 1 := by omega
  have hz12 : NRow (W1.drew.setCells P 0 (old.map (Value.int .u8))) .u8 (P + 1) 33 (List.replicate 32 0) := hz2.drew.setO hz1.drew rfl ho (by omega)
  have hz21 : NRow (W1.drew.setCells (P + 1) 0 (old.map (Value.int .u8))) .u8 P 33 (List.replicate 32 0) := hz1.drew.setO hz2.drew rfl ho (by omega)
  have hp1 : NRow (W1.drew.setCells P 0 (old.map (Value.int .u8))) .u8 P 33 old := hz1.drew.setC rfl ho
  have hp2 : NRow (W1.drew.setCells (P + 1) 0 (old.map (Value.int .u8))) .u8 (P + 1) 33 old := hz2.drew.setC rfl ho
  have HF2 : Hid (NRow ((W1.drew.setCells P 0 (old.map (Value.int .u8))).setCells (P + 1) 0 (old.map (Value.int .u8))) .u8 P 33 old ∧ NRow ((W1.drew.setCells P 0 (old.map (Value.int .u8))).setCells (P + 1) 0 (old.map (Value.int .u8))) .u8 (P + 1) 33 old ∧ Below P w ((W1.drew.setCells P 0 (old.map (Value.int .u8))).setCells (P + 1) 0 (old.map (Value.int .u8)))) := ⟨hp1.setO hz12 rfl ho (by omega), hz12.setC rfl ho, below_setC (below_setC hb1.drew hz1.drew rfl ho (Nat.le_refl _)) hz12 rfl ho (by omega)⟩
  have HF3 : Hid (NRow ((W1.drew.setCells (P + 1) 0 (old.map (Value.int .u8))).setCells P 0 (old.map (Value.int .u8))) .u8 P 33 old ∧ NRow ((W1.drew.setCells (P + 1) 0 (old.map (Value.int .u8))).setCells P 0 (old.map (Value.int .u8))) .u8 (P + 1) 33 old ∧ Below P w ((W1.drew.setCells (P + 1) 0 (old.map (Value.int .u8))).setCells P 0 (old.map (Value.int .u8)))) := ⟨hz21.setC rfl ho, hp2.setO hz21 rfl ho (by omega), below_setC (below_setC hb1.drew hz2.drew rfl ho (by omega)) hz21 rfl ho (Nat.le_refl _)⟩
  have HZ12 := Lib.hid hz12
  have HZ21 := Lib.hid hz21
  clear hz12 hz21 hp1 hp2
  have HZ1 := Lib.hid hz1
  have HZ2 := Lib.hid hz2
  have HR1 := Lib.hid hr1
  have HB1 := Lib.hid hb1
  have HP := Lib.hid hP
  have HW1 := Lib.hid hW1
  clear hr hz1 hz2 hb1 hr1 hP hW1
  go_enter Tryd.func36, Tryd.ntmps36
  go_wp2_with fail
  rw [← HW1.out, ← HP.out]
  clear HW1
  refine wp_region_held_drew (S := fun w' => w'.rangeAt po 0 (old.map (Value.int .u8))) (by kernel_rfl) hS.1 (fun hHeld => ?_)
  refine wpAnyH_take (i := 0) (v := .agg (old.map (Value.int .u8)).toArray) rfl (by kernel_rfl) (by kernel_rfl) (by kernel_rfl) (fun _ _ _ h => h) (yieldsIf_load_mid (by rfl) _ _ rfl po 0 rfl (old.map (Value.int .u8)) _ (fun w h => h) Tryd.underlying33 rfl hi32) (by assumption) ?_
  simp only [Act.put, List.setIfInBounds_toArray, List.set_cons_zero, List.set_cons_succ]
  refine wpAnyH_take (i := 1) (v := .agg (old.map (Value.int .u8)).toArray) rfl (by kernel_rfl) (by kernel_rfl) (by kernel_rfl) (fun _ _ _ h => h) (yieldsIf_load_mid (by rfl) _ _ rfl po 0 rfl (old.map (Value.int .u8)) _ (fun w h => h) Tryd.underlying33 rfl hi32) (by assumption) ?_
  simp only [Act.put, List.setIfInBounds_toArray, List.set_cons_zero, List.set_cons_succ]
  refine wpAnyH_ready (rs := [2]) (by kernel_rfl) (by simp) ?_
  refine AllReadyH.cons rfl (fun K hK => ?_) AllReadyH.nil
  · rw [if_pos (by rfl)]
    refine wp_store_mid _ _ _ rfl P 0 (old.map (Value.int .u8)).toArray rfl rfl (HZ1.out.drew.there (by simp [ho])) (by rw [info32]; simp [ho]) (u8_all _) ?_
    refine hK.out _ _ (World.rangeAt_setCells_apart (by assumption) _ _ _ (by omega)) (fun hHeld => ?_)
    clear hK K
    simp only [Act.put, List.setIfInBounds_toArray, List.set_cons_zero, List.set_cons_succ]
    refine wpAnyH_ready (rs := [3]) (by kernel_rfl) (by simp) ?_
    refine AllReadyH.cons rfl (fun K hK => ?_) AllReadyH.nil
    rw [if_pos (by rfl)]
    refine wp_store_mid _ _ _ rfl (P + 1) 0 (old.map (Value.int .u8)).toArray rfl rfl (HZ12.out.there (by simp [ho])) (by rw [info32]; simp [ho]) (u8_all _) ?_
    refine hK.out _ _ (World.rangeAt_setCells_apart (by assumption) _ _ _ (by omega)) (fun hHeld => ?_)
    clear hK K
    simp only [Act.put, List.setIfInBounds_toArray, List.set_cons_zero, List.set_cons_succ]
    refine wpAnyH_done (by kernel_rfl) ?_ _
    go_wp2_with fail
    refine bodyPost_ret (results_two_rows rfl _ _ P (P + 1) 33 (old.map (Value.int .u8)).toArray (old.map (Value.int .u8)).toArray (0, 0) _ rfl rfl HF2.out.1 HF2.out.2.1 Tryd.underlying33 rfl (by rw [info32]; simp [ho]) (by rw [info32]; simp [ho])) rfl ?_
    exact ⟨rfl, by rw [← HP.out]; exact HF2.out.2.2⟩

end Go.Proofs.YtgfnelpfoegdaaaDoor
