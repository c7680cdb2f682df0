/-
  Package date near 2026: the year of a day (Of).
-/
import Derived.Test.YtkcmkpljpmfiaaaDoorHoC
namespace Go.Proofs.YtkcmkpljpmfiaaaDoor
open Go.RowKit

def yoeF (d : Int) : Int := ((d + 306) % 146097 - (d + 306) % 146097 / 1460 + (d + 306) % 146097 / 36524 - (d + 306) % 146097 / 146096) / 365
def doyF (d : Int) : Int := (d + 306) % 146097 - (365 * yoeF d + yoeF d / 4 - yoeF d / 100)
def yrF (d : Int) : Int := if 10 ≤ (5 * doyF d + 2) / 153 then yoeF d + 400 * ((d + 306) / 146097) + 1 else yoeF d + 400 * ((d + 306) / 146097)
theorem yoe_in {d : Int} (h : 739000 ≤ d ∧ d ≤ 742000) : 20 ≤ yoeF d ∧ yoeF d ≤ 35 := by unfold yoeF; omega
theorem doy_in {d : Int} (h : 739000 ≤ d ∧ d ≤ 742000) : 0 ≤ doyF d ∧ doyF d ≤ 366 := by
  have h5 : (d + 306) / 146097 = 5 := by omega
  have hE : (d + 306) % 146097 = d + 306 - 146097 * 5 := by omega
  have hy : yoeF d = (d + 306 - 146097 * 5 - (d + 306 - 146097 * 5) / 1460) / 365 := by
    unfold yoeF
    rw [hE]
    have h6 : (d + 306 - 146097 * 5) / 36524 = 0 := by omega
    have h7 : (d + 306 - 146097 * 5) / 146096 = 0 := by omega
    rw [h6, h7]
    omega
  unfold doyF
  rw [hE]
  obtain ⟨Y, hY⟩ : ∃ Y, yoeF d = Y := ⟨_, rfl⟩
  rw [hY] at hy ⊢
  obtain ⟨F, hF⟩ : ∃ F, F = d + 306 - 146097 * 5 := ⟨_, rfl⟩
  rw [← hF] at hy ⊢
  have hF1 : 8821 ≤ F := by omega
  have hF2 : F ≤ 11821 := by omega
  clear hE h5 hY hF h
  have hr : Y = 24 ∨ Y = 25 ∨ Y = 26 ∨ Y = 27 ∨ Y = 28 ∨ Y = 29 ∨ Y = 30 ∨ Y = 31 ∨ Y = 32 := by omega
  have hq : F / 1460 = 6 ∨ F / 1460 = 7 ∨ F / 1460 = 8 := by omega
  rcases hr with rfl | rfl | rfl | rfl | rfl | rfl | rfl | rfl | rfl <;> omega

/-- A result that lies in a row, and one that lies in a temporary. -/
theorem results_dt {P : Program} {fn : Func} {p u : Tmp} {ty : TypeId} (h : fn.results = #[.cell p ty, .tmp u]) (tmps : Array Value) (w : World) (g : Nat) (t : TypeId) (cs : Array Value) (fr : Nat × Nat) (d : TypeDesc)
    (hp : tmps.getD p undef = .pointer (some ⟨g, 0, none⟩)) (hg : w.heap[g]? = some (.cells cs t fr))
    (hu : P.underlying ty = some d) (hd : (match d with | .struct _ | .array _ _ => true | _ => false) = true) (hi : (P.info? ty).map (·.size) = some cs.size) :
    (results fn tmps).run P w = .ok (.tuple #[.agg cs, tmps.getD u undef]) w := by
  rw [results_cell_tmp h, hp]
  simp [asAddr, run_loadVar_row w g t ty cs fr d hg hu hd hi, Result.andThen]

theorem heap_two (w : World) (o p : Obj) : ((w.alloc o).alloc p).heap[w.heap.size]? = some o := by
  show ((w.heap.push o).push p)[w.heap.size]? = _
  rw [Array.getElem?_push_lt (by simp)]
  simp

set_option maxHeartbeats 2000000 in
theorem of_any (d : Int) (w : World) (h : 739000 ≤ d ∧ d ≤ 742000) :
    Calls Tryd.prog 44 #[.int .i64 d] w fun e w' => (∃ m k, e = .returned (.tuple #[.agg #[.int .i64 (yrF d), .int .i64 m, .int .i64 k], .int .i64 0])) ∧ Below w.heap.size w w' := by
  have hyo := yoe_in h
  have hdo := doy_in h
  obtain ⟨h1, h2⟩ := h
  obtain ⟨P, hP⟩ : ∃ P, P = w.heap.size := ⟨_, rfl⟩
  obtain ⟨W0, hW0⟩ : ∃ W, W = w.alloc (.cells #[.int .i64 0, .int .i64 0, .int .i64 0] 83) := ⟨_, rfl⟩
  have hb0 : Below w.heap.size w W0 := by rw [hW0]; exact (Below.refl _ _).alloc (Nat.le_refl _) _
  have hrow : W0.heap[P]? = some (.cells #[.int .i64 0, .int .i64 0, .int .i64 0] 83 (0, 0)) := by
    rw [hW0, hP]; show (w.heap.push _)[w.heap.size]? = _; simp
  have hz1 : 0 ≤ (d + 306) % 146097 := by omega
  have hz2 : (d + 306) % 146097 < 146097 := by omega
  have hq1 : (d + 306) / 146097 = 5 := by omega
  obtain ⟨E, hE⟩ : ∃ E, (d + 306) % 146097 = E := ⟨_, rfl⟩
  obtain ⟨Y, hY⟩ : ∃ Y, yoeF d = Y := ⟨_, rfl⟩
  obtain ⟨D, hD⟩ : ∃ D, doyF d = D := ⟨_, rfl⟩
  rw [hE] at hz1 hz2
  rw [hY] at hyo
  rw [hD] at hdo
  have hYE : (E - E / 1460 + E / 36524 - E / 146096) / 365 = Y := by rw [← hY, ← hE]; rfl
  have hDE : E - (365 * Y + Y / 4 - Y / 100) = D := by rw [← hD, ← hE, ← hY]; rfl
  have hyr : yrF d = if 10 ≤ (5 * D + 2) / 153 then Y + 400 * 5 + 1 else Y + 400 * 5 := by unfold yrF; rw [hD, hY, hq1]
  rw [hyr]
  go_enter Tryd.func44, Tryd.ntmps44
  go_wp2_with fail
  all_goals
    refine bodyPost_ret (results_dt rfl _ _ w.heap.size 83 _ _ _ rfl (heap_two _ _ _) Tryd.underlying83 rfl (by kernel_rfl)) rfl ?_
    exact ⟨⟨_, _, rfl⟩, ((Below.refl _ _).alloc (Nat.le_refl _) _).alloc (by simp) _⟩

end Go.Proofs.YtkcmkpljpmfiaaaDoor
