/-
  rollbooklaw33.versions: the versions of facts that events record.
-/
import Derived.Test.YtgfnelpfoegdaaaFfC
import Derived.Deep.RegionLaw
namespace Go.Proofs.Ytgfnelpfoegdaaa
open Go.RowKit

def vsF (xs : List Int) : List Vs := xs.mapIdx fun i e => ⟨i, factE e i⟩
theorem vsF_len (xs : List Int) : (vsF xs).length = xs.length := by simp [vsF]
theorem vsF_snoc (xs : List Int) (k : Nat) (hk : k < xs.length) : vsF (xs.take (k + 1)) = vsF (xs.take k) ++ [⟨k, factE xs[k] k⟩] := by
  rw [List.take_succ_eq_append_getElem hk]
  unfold vsF
  rw [List.mapIdx_concat, List.length_take, Nat.min_eq_left (by omega)]

theorem infoVsB : ∃ z, (Try.prog.info? 75).map (fun i => (i.zero, i.size, i.bytes)) = some (some z, 8, 72) ∧ z.cells.size = 8 := by
  have hi3 : (Try.prog.info? 75).map (fun i => (i.zero.map (·.cells.size), i.size, i.bytes)) = some (some 8, 8, 72) := by kernel_rfl
  cases hq : Try.prog.info? 75 with
  | none => rw [hq] at hi3; cases hi3
  | some i =>
    rw [hq] at hi3
    simp only [Option.map_some, Option.some.injEq, Prod.mk.injEq] at hi3
    obtain ⟨hz, hsz, hby⟩ := hi3
    cases hz1 : i.zero with
    | none => rw [hz1] at hz; cases hz
    | some z =>
      rw [hz1] at hz
      simp only [Option.map_some, Option.some.injEq] at hz
      exact ⟨z, by simp [hz1, hsz, hby], hz⟩

set_option maxHeartbeats 2000000 in
set_option maxRecDepth 100000 in
theorem versions_any (xs : List Int) (v : Value) (w : World) (hx : IsInts w v xs) (hr : ∀ x ∈ xs, 0 ≤ x ∧ x < 1000000) (hl : xs.length ≤ 65536) :
    Calls Try.prog 36 #[v] w fun e w' => ∃ v', e = .returned v' ∧ IsVss w' v' (vsF xs) ∧ Below w.heap.size w w' := by
  obtain ⟨ad, cap, rfl, hlen, -, hc⟩ := hx.open
  unfold maxLen at hlen
  have HC := Lib.hid hc
  have HR := Lib.hid hr
  obtain ⟨zb, hzb, hzc⟩ := infoVsB
  clear hx hc hr
  go_enter Try.func36, Try.ntmps36
  go_wp2_with fail
  go_loopw [3, 4] (fun a i wr => ∃ k : Nat, i = .int .i64 k ∧ k ≤ xs.length ∧ Hid (wr.ownsRow w.heap.size 75 8 a k (enC vsE (vsF (xs.take k)))) ∧ w.heap.size ≤ wr.heap.size ∧ Hid (Below w.heap.size w wr)) (fun _ i _ => xs.length + 1 - (intOf i).toNat)
  case atStart => exact ⟨0, rfl, by omega, Lib.hid (by simpa [enC, vsF] using World.ownsRow_nil w w.heap.size 75 8), Nat.le_refl _, Lib.hid (Below.refl _ _)⟩
  case round =>
    obtain ⟨k, rfl, hkl, HO, hsw, HB⟩ := hrel
    by_cases hlt : (k : Int) < (xs.length : Int)
    · have hkn : k < xs.length := by omega
      obtain ⟨bb, off, rfl, hcell0⟩ := HC.out k hkn
      have hcell : wr.cell? ⟨bb, off + k, none⟩ = some (.int .i64 xs[k]) := (HB.out.cell (World.block_lt_of_cell? _ _ hcell0)).trans hcell0
      have hbb : bb < wr.heap.size := World.block_lt_of_cell? _ _ hcell
      have hr0 := HR.out _ (List.getElem_mem hkn)
      have HSN := Lib.hid (vsF_snoc xs k hkn)
      obtain ⟨e, he⟩ : ∃ e, xs[k] = e := ⟨_, rfl⟩
      rw [he] at hcell hr0 HSN
      obtain ⟨q, hq⟩ : ∃ q, q = e / 7 := ⟨_, rfl⟩
      have hq0 : 0 ≤ q ∧ q < 1000000 := by omega
      have hqt : e.tdiv 7 = q := by rw [hq, Int.tdiv_eq_ediv_of_nonneg (by omega)]
      obtain ⟨W1, hW1⟩ : ∃ W, W = (wr.alloc (.cells #[.int .i64 e, .int .i64 q, .int .i64 e, .int .i64 k, .int .i64 k, .int .i64 e] 3)).drew := ⟨_, rfl⟩
      have hqw : IntKind.i64.wrap q = q := by rw [IntKind.wrap_i64]; omega
      have hbw1 : Below wr.heap.size wr W1 := by rw [hW1]; exact ((Below.refl _ _).alloc (Nat.le_refl _) _).drew
      have hin : IsInts W1 (.slice (some ⟨wr.heap.size, 0, none⟩) 6 6) [e, q, e, k, k, e] := by
        have h1 := Rd.lit wr #[.int .i64 e, .int .i64 q, .int .i64 e, .int .i64 k, .int .i64 k, .int .i64 e] 3 1 6 rfl (by unfold maxLen; omega)
        rw [hW1]
        exact h1
      have hfa := fact_any e q k _ W1 hin (by unfold I64; omega) (by unfold I64; omega) (by unfold I64; omega) hq
      obtain ⟨F, hF⟩ : ∃ F, F = factE e k := ⟨_, rfl⟩
      rw [← hF] at hfa HSN
      obtain ⟨f0, f1, f2, f3, f4, f5⟩ := F
      unfold fcE at hfa
      simp only at hfa
      have HFA := Lib.hid hfa
      have HW1 := Lib.hid hW1
      have HBW1 := Lib.hid hbw1
      have HA : Hid (∀ w2, Below W1.heap.size W1 w2 → (w2.alloc (.cells #[.int .i64 k, .bool false, .int .i64 f0, .string f1, .int .i64 f2, .int .i64 f3, .int .i64 f4, .int .i64 f5] 75)).ownsRow w.heap.size 75 8 u3 k (enC vsE (vsF (xs.take k))) ∧
          Rd (w2.alloc (.cells #[.int .i64 k, .bool false, .int .i64 f0, .string f1, .int .i64 f2, .int .i64 f3, .int .i64 f4, .int .i64 f5] 75)) (.slice (some ⟨w2.heap.size, 0, none⟩) 1 1) 8 1 [.int .i64 k, .bool false, .int .i64 f0, .string f1, .int .i64 f2, .int .i64 f3, .int .i64 f4, .int .i64 f5] ∧
          Below w.heap.size w (w2.alloc (.cells #[.int .i64 k, .bool false, .int .i64 f0, .string f1, .int .i64 f2, .int .i64 f3, .int .i64 f4, .int .i64 f5] 75))) := fun w2 h2 => by
        have h3 : Below wr.heap.size wr (w2.alloc (.cells #[.int .i64 k, .bool false, .int .i64 f0, .string f1, .int .i64 f2, .int .i64 f3, .int .i64 f4, .int .i64 f5] 75)) := by
          have h4 := Below.to hbw1 h2 hbw1.size
          exact Below.to h4 ((Below.refl _ _).alloc (Nat.le_refl _) _) h4.size
        exact ⟨owns_below HO.out h3, Rd.lit w2 #[.int .i64 k, .bool false, .int .i64 f0, .string f1, .int .i64 f2, .int .i64 f3, .int .i64 f4, .int .i64 f5] 75 8 1 rfl (by unfold maxLen; omega), Below.to HB.out h3 HB.out.size⟩
      have HN1 : Hid (k + 1 ≤ maxLen) := by show _ ≤ _; unfold maxLen; omega
      have HN2 : Hid ((k + 1) * 72 ≤ 140737488355328) := by show _ ≤ _; omega
      clear hfa hin hW1 hF hcell0 he hq hbw1
      go_wp2_with fail
      go_region_law
        (first
          | (go_simp
             go_at_call 57
             rw [← HW1.out]
             refine HFA.out.mono ?_
             rintro r w2 ⟨rfl, hb2⟩
             have HA2 := Lib.hid (HA.out w2 hb2)
             clear hb2)
          | (refine step_append_rd (by rfl) _ _ 51 (by rfl) w.heap.size 75 zb 8 72 Try.underlying51 hzb hzc (by decide) u3 k (enC vsE (vsF (xs.take k))) (by rfl) HA2.out.1 _ 1 [.int .i64 k, .bool false, .int .i64 f0, .string f1, .int .i64 f2, .int .i64 f3, .int .i64 f4, .int .i64 f5] (by rfl) HA2.out.2.1 (vsE_one ⟨k, ⟨f0, f1, f2, f3, f4, f5⟩⟩) HN1.out HN2.out HA2.out.2.2.size ?_
             intro v6 w6 hv6 hg6
             have HV6 := Lib.hid hv6
             have HB6 := Lib.hid (below_append HA2.out.2.2 HA2.out.1 hg6 HA2.out.2.2.size)
             clear hv6 hg6))
      all_goals
        have HO6 : Hid (w6.ownsRow w.heap.size 75 8 v6 (k + 1) (enC vsE (vsF (xs.take (k + 1))))) := by
          show World.ownsRow _ _ _ _ _ _ _
          rw [HSN.out, enC_append, enC_single]
          exact HV6.out
        clear HV6 HA2 HA HFA HW1
        go_wp2_with fail
        go_roundw
        case rel => exact ⟨k + 1, by go_num, by omega, HO6, HB6.out.size, HB6⟩
        case measure => simp [intOf]; omega
    · have hke : k = xs.length := by omega
      have HF : Hid (IsVss wr u3 (vsF xs)) := by
        have h := HO.out
        rw [hke, List.take_length] at h
        show Rd _ _ _ _ _
        rw [vsF_len]
        exact Rd.of_owns h
      clear HO
      go_wp2_with fail
      go_ret
      exact ⟨_, rfl, HF.out, HB.out⟩

end Go.Proofs.Ytgfnelpfoegdaaa
