/-
  append(s, make([]byte, m)...), slices.Clone and Concat at bytes; the digest's states.
-/
import Derived.Test.YtgfnelpfoegdaaaDoorDgB
import Derived.Lib.AppendZeros
namespace Go.Proofs.YtgfnelpfoegdaaaDoor
open Go.RowKit

theorem zeros_list (m : Nat) : (Builtin.zeroCells #[.int .u8 0] m).toList = List.replicate m (.int .u8 0) := by
  apply List.ext_getElem
  · simp [Builtin.zeroCells]
  · intro i h1 h2
    simp [Builtin.zeroCells, Nat.mod_one]

theorem run_zeros_full {P : Program} (w : World) (base : Nat) (t tn ty e : TypeId) (i : TypeInfo) (kn : IntKind) (ht : P.underlying t = some (.slice e)) (htn : P.underlying tn = some (.int kn)) (hi : P.info? e = some i) (hz : i.zero = some (.int .u8 0)) (hs : i.size = 1) (hb : i.bytes = 1)
    (g n : Nat) (xs : List Value) (hown : w.ownsRow base e 1 (.slice (some ⟨g, 0, none⟩) n n) n xs) (m : Nat) (hn : n ≤ 1000000) (hm : m ≤ 1000000) :
    ∃ v' w', (Builtin.append_ #[t, tn] ty #[.slice (some ⟨g, 0, none⟩) n n, .int .i64 m]).run P w = .ok v' w' ∧ w'.ownsRow base e 1 v' (n + m) (xs ++ List.replicate m (.int .u8 0)) ∧ w.grownBy w' (some g) := by
  have hxl : xs.length = n := by have := hown.1; omega
  have hlt := hown.lt g rfl
  have hw : IntKind.i64.wrap (m : Int) = m := by rw [IntKind.wrap_i64]; omega
  have hneg : ¬ ((m : Int) < 0) := by omega
  have h48i : ¬ (281474976710656 < (m : Int)) := by omega
  rcases Nat.eq_zero_or_pos m with hm0 | hm0
  · subst hm0
    refine ⟨.slice (some ⟨g, 0, none⟩) n n, w, ?_, by simpa using hown, World.grownBy.refl _ _⟩
    simp [Builtin.append_, run_underlying ht, run_underlying htn, sizeOf, typeInfo, hi, hb, asInt, asIntOf, storeCells, show IntKind.i64.wrap 0 = 0 from rfl]
  · have hmz : ¬ m = 0 := by omega
    have hneed : ¬ n + m ≤ n := by omega
    have h63' : ¬ (9223372036854775807 < (n : Int) + (m : Int)) := by omega
    have hnext : Builtin.nextslicecap (n + m) n ≤ 281474976710656 := by
      have := nextslicecap_le (need := n + m) (old := n) (by omega)
      omega
    have h48' : ¬ (281474976710656 < Builtin.nextslicecap (n + m) n) := by omega
    have hl : (loadCells ⟨g, 0, none⟩ n).run P w.drew = .ok xs.toArray w.drew := by
      have h := run_loadCells_list (P := P) w.drew ⟨g, 0, none⟩ xs (fun j u hu => hown.cells rfl j u hu)
      rw [hxl] at h
      exact h
    have hge := grownCap_ge w (n + m) n e
    have hcm : grownCap w (n + m) n e ≤ maxLen := grownCap_le_maxLen w (n + m) n e (by unfold maxLen; omega)
    refine ⟨.slice (some ⟨w.heap.size, 0, none⟩) (n + m) (grownCap w (n + m) n e), w.drew.alloc (.cells (xs.toArray ++ Builtin.zeroCells #[.int .u8 0] m ++ Builtin.zeroCells #[.int .u8 0] (grownCap w (n + m) n e - (n + m))) e), ?_, ?_, ?_⟩
    · simp [Builtin.append_, run_underlying ht, run_underlying htn, sizeOf, typeInfo, zeroValue, hi, hz, hs, hb, asInt, asIntOf, hw, hneg, hmz, h48i, h63', h48', Question.forced, Builtin.firstCells, hl, newRow, grownCap, Value.cells]
      intro hh
      omega
    · refine ⟨by simp [hxl], .inr ⟨w.heap.size, _, _, rfl, ?_, World.alloc_heap_new w.drew _, hge, hcm, ?_, ?_⟩⟩
      · omega
      · simp only [Array.size_append, List.size_toArray, size_zeroCells, hxl]
        simp
        omega
      · simp only [Array.toList_append, List.append_assoc]
        rw [← List.append_assoc]
        have e1 : xs ++ (Builtin.zeroCells #[.int .u8 0] m).toList = xs ++ List.replicate m (.int .u8 0) := by
          rw [zeros_list]
        rw [e1]
        have e2 : (n + m) * 1 = (xs ++ List.replicate m (Value.int .u8 0)).length := by simp [hxl]
        rw [e2]
        exact List.take_left
    · exact ⟨rfl, rfl, rfl, by simp, fun k hk _ => (World.grownBy_alloc w.drew _ none).block k hk (by simp)⟩

/-! ### slices.Clone -/
theorem cloneS (xs : List Int) (v : Value) (w : World) (hx : IsBts w v xs) (hb : xs.length ≤ 1000000) :
    Calls Tryd.prog 65 #[v] w fun e w' => ∃ v', e = .returned v' ∧ w'.ownsRow w.heap.size 5 1 v' xs.length (bts xs) ∧ Below w.heap.size w w' := by
  obtain ⟨a, cap, rfl, hcap, hcase⟩ := Rd.source hx
  rcases hcase with ⟨rfl, h0⟩ | ⟨ad, rfl, -⟩
  · have hz : xs = [] := by
      have h1 := bts_len xs
      rw [h0] at h1
      exact List.eq_nil_of_length_eq_zero (by simpa using h1.symm)
    subst hz
    have he := fun w : World => Lib.run_eql_slice_nil (P := Tryd.prog) w 53 5 none 0 cap 0 0 Tryd.underlying53
    go_enter Tryd.func65, Tryd.ntmps65
    go_wp2
    go_ret
    exact ⟨_, rfl, World.ownsRow_nil _ _ _ _, Below.refl _ _⟩
  · have he := fun w : World => Lib.run_eql_slice_nil (P := Tryd.prog) w 53 5 (some ad) xs.length cap 0 0 Tryd.underlying53
    have HX := Lib.hid hx
    clear hx
    go_enter Tryd.func65, Tryd.ntmps65
    go_wp2_with (at_builtin; refine wpList_append_rd rfl _ _ 53 rfl w.heap.size 5 _ 1 1 Tryd.underlying53 infoB rfl (by decide) _ 0 [] rfl ?own _ xs.length (bts xs) rfl ?src (bts_one _) ?b1 ?b2 ?b3 ?_)
    case own => exact World.ownsRow_made w #[] 0 (Nat.le_refl _) (Nat.zero_le _) rfl
    case src => exact HX.out.below ((Below.refl _ _).alloc (Nat.le_refl _) _)
    case b1 => unfold maxLen; omega
    case b2 => omega
    case b3 => simp
    intro v' w1 hown hg
    have hbel : Below w.heap.size w w1 := below_append ((Below.refl _ _).alloc (Nat.le_refl _) _) (World.ownsRow_made w #[] 0 (Nat.le_refl _) (Nat.zero_le _) rfl : (w.alloc (.cells #[] 5)).ownsRow w.heap.size 5 1 _ 0 []) hg (by simp)
    have HO := Lib.hid (show w1.ownsRow w.heap.size 5 1 v' xs.length (bts xs) from by simpa using hown)
    have HB := Lib.hid hbel
    clear hown hg hbel
    go_wp2
    go_ret
    exact ⟨_, rfl, HO.out, HB.out⟩

end Go.Proofs.YtgfnelpfoegdaaaDoor
