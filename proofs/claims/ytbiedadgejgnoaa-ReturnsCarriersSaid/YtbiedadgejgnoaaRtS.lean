/-
  The reference's Sorted and starts.
-/
import Derived.Test.YtbiedadgejgnoaaRtE
namespace Go.Proofs.Ytbiedadgejgnoaa
open Go.RowKit

theorem infoInt : (Try.prog.info? 3).map (fun i => (i.zero, i.size, i.bytes)) = some (some (.int .i64 0), 1, 8) := by kernel_rfl
theorem ints_append (xs ys : List Int) : ints (xs ++ ys) = ints xs ++ ints ys := by simp [ints]
theorem ints_len (xs : List Int) : (ints xs).length = xs.length := by simp [ints]

theorem IsInts.drop {w : World} {b off n cap : Nat} {xs : List Int} (h : IsInts w (.slice (some ⟨b, off, none⟩) n cap) xs) (k : Nat) (hk : k ≤ xs.length) : IsInts w (.slice (some ⟨b, off + k, none⟩) (n - k) (cap - k)) (xs.drop k) := by
  obtain ⟨h1, h2, a', cap', hv, hn, hc⟩ := h
  simp only [Value.slice.injEq] at hv
  obtain ⟨rfl, rfl, rfl⟩ := hv
  have hl : (xs.drop k).length = xs.length - k := List.length_drop
  refine ⟨by simp [ints], by omega, some ⟨b, off + k, none⟩, cap - k, by rw [hl], by omega, fun j u hu => ⟨b, off + k, rfl, ?_⟩⟩
  have hj : j < xs.length - k := by
    have := (List.getElem?_eq_some_iff.1 hu).1
    simp [ints] at this
    omega
  obtain ⟨b', off', e', hcell⟩ := hc (k + j) u (by
    simp only [ints, List.getElem?_map, List.getElem?_drop] at hu ⊢
    exact hu)
  simp only [Option.some.injEq, Addr.mk.injEq, and_true] at e'
  obtain ⟨rfl, rfl⟩ := e'
  rw [show off + k + j = off + (k + j) from by omega]
  exact hcell

/-- A list with one number put in at its place. -/
theorem ins_sorted {out : List Int} {x : Int} {k : Nat} (hs : out.Pairwise (· ≤ ·)) (hlt : ∀ j (h : j < out.length), j < k → out[j] < x) (hge : ∀ h : k < out.length, x ≤ out[k]) (hk : k ≤ out.length) :
    (out.take k ++ [x] ++ out.drop k).Pairwise (· ≤ ·) := by
  rw [List.append_assoc, List.pairwise_append]
  refine ⟨hs.sublist (List.take_sublist _ _), ?_, fun a ha b hb => ?_⟩
  · show (x :: out.drop k).Pairwise (· ≤ ·)
    rw [List.pairwise_cons]
    refine ⟨fun b hb => ?_, hs.sublist (List.drop_sublist _ _)⟩
    obtain ⟨j, hj, rfl⟩ := List.mem_iff_getElem.1 hb
    rw [List.getElem_drop]
    rw [List.length_drop] at hj
    have hk' : k < out.length := by omega
    have h1 := hge hk'
    rw [List.pairwise_iff_getElem] at hs
    rcases Nat.eq_zero_or_pos j with rfl | hp
    · simpa using h1
    · have := hs k (k + j) hk' (by omega) (by omega)
      omega
  · rw [List.mem_take_iff_getElem] at ha
    obtain ⟨i, hi, rfl⟩ := ha
    have h1 := hlt i (by omega) (by omega)
    rcases List.mem_cons.1 (show b ∈ x :: out.drop k from hb) with rfl | hb
    · omega
    · obtain ⟨j, hj, rfl⟩ := List.mem_iff_getElem.1 hb
      rw [List.getElem_drop]
      rw [List.length_drop] at hj
      have h2 := hge (by omega)
      rw [List.pairwise_iff_getElem] at hs
      have := hs i (k + j) (by omega) (by omega) (by omega)
      exact this
theorem ins_perm {out l : List Int} {x : Int} (k : Nat) (h : out.Perm l) : (out.take k ++ [x] ++ out.drop k).Perm (l ++ [x]) := by
  have h1 : (out.take k ++ [x] ++ out.drop k).Perm (out.take k ++ out.drop k ++ [x]) := by
    rw [List.append_assoc, List.append_assoc]
    exact List.Perm.append_left _ List.perm_append_comm
  rw [List.take_append_drop] at h1
  exact h1.trans (h.append_right _)

set_option maxHeartbeats 4000000 in
set_option maxRecDepth 100000 in
theorem sorted_any (xs : List Int) (v : Value) (w : World) (hx : IsInts w v xs) (hl : xs.length ≤ 1000) :
    Calls Try.prog 63 #[v] w fun e w' => ∃ v', e = .returned v' ∧ ∃ out, Hid (out.Perm xs ∧ out.Pairwise (· ≤ ·)) ∧ w'.ownsRow w.heap.size 3 1 v' out.length (ints out) ∧ Below w.heap.size w w' := by
  obtain ⟨a, cap, rfl, -, -, hc⟩ := hx.open
  have HC := Lib.hid hc
  clear hx hc
  go_enter Try.func63, Try.ntmps63
  go_wp2_with fail
  go_loopw [3, 4] (fun o i wr => ∃ (k : Nat) (v3 : Value) (out : List Int), v3 = o ∧ i = .int .i64 k ∧ k ≤ xs.length ∧ out.length = k ∧ Hid (out.Perm (xs.take k) ∧ out.Pairwise (· ≤ ·)) ∧ Hid (wr.ownsRow w.heap.size 3 1 v3 out.length (ints out)) ∧ Hid (Below w.heap.size w wr)) (fun _ i _ => xs.length - (intOf i).toNat)
  case atStart => exact ⟨0, _, [], rfl, rfl, Nat.zero_le _, rfl, Lib.hid ⟨List.Perm.refl _, List.Pairwise.nil⟩, Lib.hid (World.ownsRow_nil _ _ _ _), Lib.hid (Below.refl _ _)⟩
  case round =>
    obtain ⟨i, v3, out, rfl, rfl, hi, rfl, HP, HOW, HBR⟩ := hrel
    by_cases hil : out.length < xs.length
    · obtain ⟨wo, rfl⟩ : ∃ wo : World, wo = wr := ⟨_, rfl⟩
      obtain ⟨b, off, rfl, z0⟩ := HC.out out.length hil
      have hblt : b < w.heap.size := World.block_lt_of_cell? _ _ z0
      have c0 := (HBR.out.cell (p := ⟨b, off + out.length, none⟩) hblt).trans z0
      have HTK : Hid (xs.take (out.length + 1) = xs.take out.length ++ [xs[out.length]]) := List.take_succ_eq_append_getElem hil
      generalize xs[out.length] = x at *
      have hso := HBR.out.size
      obtain ⟨a3, c3, rfl, hnc, -⟩ := owns_slice HOW.out
      have hI3 := IsInts.of_owns HOW.out
      have HI3 := Lib.hid hI3
      obtain ⟨_, _, e3, -, -, hc3⟩ := hI3.open
      simp only [Value.slice.injEq, true_and] at e3
      obtain ⟨rfl, rfl⟩ := e3
      have HC3 := Lib.hid hc3
      clear hI3 hc3 z0
      go_wp2_with fail
      go_loopw [5] (fun s wr => ∃ k : Nat, s = .int .i64 k ∧ k ≤ out.length ∧ Hid (∀ j (h : j < out.length), j < k → out[j] < x) ∧ Hid (Below wo.heap.size wo wr)) (fun s _ => out.length - (intOf s).toNat)
      case atStart => exact ⟨0, rfl, Nat.zero_le _, Lib.hid (fun j _ h => absurd h (Nat.not_lt_zero _)), Lib.hid (Below.refl _ _)⟩
      case round =>
        obtain ⟨k, rfl, hk, HLT, HBQ⟩ := hrel
        have cx := (HBQ.out.cell (p := ⟨b, off + out.length, none⟩) (by show b < wo.heap.size; omega)).trans c0
        by_cases hgo : ∃ h : k < out.length, out[k] < x
        · obtain ⟨hkl, hlt⟩ := hgo
          obtain ⟨b6, o6, rfl, y0⟩ := HC3.out k hkl
          have y1 := (HBQ.out.cell (p := ⟨b6, o6 + k, none⟩) (World.block_lt_of_cell? _ _ y0)).trans y0
          have HLT2 : Hid (∀ j (h : j < out.length), j < k + 1 → out[j] < x) := fun j hj hjk => by
            rcases Nat.lt_succ_iff_lt_or_eq.1 hjk with h' | rfl
            · exact HLT.out j hj h'
            · exact hlt
          clear HLT y0
          generalize out[k] = y at *
          have hd : decide (y < x) = true := by simp; omega
          have hd2 : decide (k < out.length) = true := by simp; omega
          go_wp2_with fail
          go_quiet (fail)
          all_goals
            have HB9 := Lib.hid (below_drewN HBQ.out nq)
            go_wp2_with fail
            go_roundw
            case rel => exact ⟨k + 1, by go_num, by omega, HLT2, HB9⟩
            case measure => simp [intOf]; omega
        · have hge : ∀ h : k < out.length, x ≤ out[k] := fun h => by
            by_cases hh : out[k] < x
            · exact absurd ⟨h, hh⟩ hgo
            · omega
          have HS : Hid ((out.take k ++ [x] ++ out.drop k).Perm (xs.take (out.length + 1)) ∧ (out.take k ++ [x] ++ out.drop k).Pairwise (· ≤ ·)) := ⟨by rw [HTK.out]; exact ins_perm k HP.out.1, ins_sorted HP.out.2 HLT.out hge hk⟩
          have HIQ := Lib.hid (HI3.out.below HBQ.out)
          have HOQ := Lib.hid (owns_below HOW.out HBQ.out)
          have HBT := Lib.hid (Below.to HBR.out HBQ.out hso)
          have HTX : Hid (Rd wr (.slice a3 k c3) 1 k (ints (out.take k))) := by
            have h : Rd wr (.slice a3 k c3) 1 (out.take k).length (ints (out.take k)) := HIQ.out.take k hk
            rw [show (out.take k).length = k from by rw [List.length_take]; omega] at h
            exact h
          have HPOST : Hid (∀ (wz : World) (v9 : Value) (n : Nat), wz.ownsRow wr.heap.size 3 1 v9 n (ints (out.take k) ++ [.int .i64 x] ++ ints (out.drop k)) → wz.ownsRow w.heap.size 3 1 v9 (out.take k ++ [x] ++ out.drop k).length (ints (out.take k ++ [x] ++ out.drop k))) := fun wz v9 n h => by
            have hn : n = (out.take k ++ [x] ++ out.drop k).length := by
              have := h.1
              simp only [List.length_append, ints_len, List.length_singleton, Nat.mul_one] at this ⊢
              omega
            rw [ints_append, ints_append, ← hn]
            exact owns_mono h HBT.out.size
          have hl9 : (out.take k ++ [x] ++ out.drop k).length = out.length + 1 := by simp; omega
          have HL9 := Lib.hid hl9
          have hex : k < out.length → (decide (k < out.length) = true ∧ ∃ b6 o6, a3 = some ⟨b6, o6, none⟩ ∧ wr.cell? ⟨b6, o6 + k, none⟩ = some (.int .i64 (out.getD k 0)) ∧ decide (out.getD k 0 < x) = false) := fun hkl => by
            obtain ⟨b6, o6, ha, y0⟩ := HC3.out k hkl
            have hg := hge hkl
            have e : out.getD k 0 = out[k] := by simp [List.getD, List.getElem?_eq_getElem hkl]
            refine ⟨by simp; omega, b6, o6, ha, ?_, ?_⟩
            · rw [e]; exact (HBQ.out.cell (p := ⟨b6, o6 + k, none⟩) (World.block_lt_of_cell? _ _ y0)).trans y0
            · rw [e]; simp; omega
          have HEX := Lib.hid hex
          have HDK : Hid (∀ b6 o6, a3 = some ⟨b6, o6, none⟩ → Rd wr (.slice (some ⟨b6, o6 + k, none⟩) (out.length - k) (c3 - k)) 1 (out.length - k) (ints (out.drop k))) := fun b6 o6 e => by
            subst e
            have h : Rd wr (.slice (some ⟨b6, o6 + k, none⟩) (out.length - k) (c3 - k)) 1 (out.drop k).length (ints (out.drop k)) := HIQ.out.drop k hk
            rw [List.length_drop] at h
            exact h
          have HDN : Hid (k = out.length → out.drop k = []) := fun e => by rw [e, List.drop_length]
          obtain ⟨T, hT⟩ : ∃ T, out.take k = T := ⟨_, rfl⟩
          obtain ⟨D, hD⟩ : ∃ D, out.drop k = D := ⟨_, rfl⟩
          rw [hT] at HTX HPOST HS HL9
          rw [hD] at HPOST HS HL9 HDK HDN
          clear hT hD
          have HLX : Hid (∀ W : World, Rd (W.alloc (.cells #[.int .i64 x] 3)) (.slice (some ⟨W.heap.size, 0, none⟩) 1 1) 1 1 [.int .i64 x]) := fun W => Rd.lit W #[.int .i64 x] 3 1 1 rfl (by unfold maxLen; omega)
          clear hl9 hex hge HLT HP HTK HBR HOW hgo HC3
          by_cases hkl : k < out.length
          · obtain ⟨hd2, b6, o6, rfl, y1, hd⟩ := HEX.out hkl
            generalize out.getD k 0 = y at *
            clear HEX
            go_wp2_with fail
            go_quiet (fail)
            have hck : ¬ c3 = k := by omega
            have hkn : (k : Int) ≤ (out.length : Int) := by omega
            have hkc : (k : Int) ≤ (c3 : Int) := by omega
            have HD := Lib.hid (HDK.out b6 o6 rfl)
            go_wp2_with (at_builtin; go_must (refine wpList_append_rd rfl _ _ 22 rfl wr.heap.size 3 _ 1 8 Try.underlying22 infoInt rfl (by decide) (.slice none 0 0) 0 [] rfl (World.ownsRow_nil _ _ _ _) _ k (ints T) rfl (HTX.out.below (below_drewN (Below.refl _ _) _)) (ints_one _) ?a1 ?a2 ?a3 ?_))
            case a1 => unfold maxLen; omega
            case a2 => omega
            case a3 => simp
            intro v6 w6 hv6 hg6
            have hb6 : Below wr.heap.size wr w6 := below_append (below_drewN (Below.refl _ _) _) (World.ownsRow_nil _ wr.heap.size 3 1) hg6 (by simp)
            have HO6 : Hid (w6.ownsRow wr.heap.size 3 1 v6 k (ints T)) := by show World.ownsRow _ _ _ _ _ _ _; simpa using hv6
            have HB6 := Lib.hid hb6
            have hs6 := hb6.size
            have cx6 := (hb6.cell (p := ⟨b, off + out.length, none⟩) (by show b < wr.heap.size; have := HBT.out.size; omega)).trans cx
            obtain ⟨a6, c6, rfl, -, -⟩ := owns_slice HO6.out
            clear hv6 hg6 hb6
            go_wp2_with (at_builtin; go_must (refine wpList_append_rd rfl _ _ 22 rfl wr.heap.size 3 _ 1 8 Try.underlying22 infoInt rfl (by decide) (.slice a6 k c6) k (ints T) rfl (owns_below HO6.out ?b0) _ 1 [.int .i64 x] rfl (HLX.out _) (ints_one [x]) ?b1 ?b2 ?b3 ?_))
            case b0 => exact (Below.refl _ _).alloc (Nat.le_refl _) _
            case b1 => unfold maxLen; omega
            case b2 => omega
            case b3 => simp; omega
            intro v7 w7 hv7 hg7
            have hb7 : Below wr.heap.size wr w7 := below_append (Below.to HB6.out ((Below.refl _ _).alloc (Nat.le_refl _) _) hs6) (owns_below HO6.out ((Below.refl _ _).alloc (Nat.le_refl _) _)) hg7 (by simp; omega)
            have HO7 := Lib.hid hv7
            have HB7 := Lib.hid hb7
            have hs7 := hb7.size
            obtain ⟨a7, c7, rfl, -, -⟩ := owns_slice HO7.out
            clear hv7 hg7 hb7 HO6 HB6 hs6
            go_wp2_with (at_builtin; go_must (refine wpList_append_rd rfl _ _ 22 rfl wr.heap.size 3 _ 1 8 Try.underlying22 infoInt rfl (by decide) (.slice a7 (k + 1) c7) (k + 1) (ints T ++ [.int .i64 x]) rfl HO7.out _ (out.length - k) (ints D) rfl (HD.out.below HB7.out) (ints_one _) ?e1 ?e2 ?e3 ?_))
            case e1 => unfold maxLen; omega
            case e2 => omega
            case e3 => exact hs7
            intro v9 w9 hv9 hg9
            have hb9 : Below wr.heap.size wr w9 := below_append HB7.out HO7.out hg9 hs7
            have HO9 := Lib.hid (HPOST.out w9 v9 _ (by simpa using hv9))
            have HB9 := Lib.hid (Below.to HBT.out hb9 HBT.out.size)
            clear hv9 hg9 hb9 HO7 HB7 hs7
            go_wp2_with fail
            go_roundw
            case rel => exact ⟨out.length + 1, _, _, rfl, by go_num, by omega, HL9.out, HS, HO9, HB9⟩
            case measure => simp [intOf]; omega
          · obtain rfl : k = out.length := by omega
            have hd2 : decide (out.length < out.length) = false := by simp
            have HD : Hid (∀ (W : World) a cap, Rd W (.slice a 0 cap) 1 0 (ints D)) := fun W a cap => by rw [HDN.out rfl]; exact Rd.nil W a 1 cap
            have hkc : (out.length : Int) ≤ (c3 : Int) := by omega
            clear HEX hkl
            cases a3 with
            | none =>
              go_wp2_with fail
              go_quiet (fail)
              go_wp2_with (at_builtin; go_must (refine wpList_append_rd rfl _ _ 22 rfl wr.heap.size 3 _ 1 8 Try.underlying22 infoInt rfl (by decide) (.slice none 0 0) 0 [] rfl (World.ownsRow_nil _ _ _ _) _ out.length (ints T) rfl (HTX.out.below (below_drewN (Below.refl _ _) _)) (ints_one _) ?a1 ?a2 ?a3 ?_))
              case a1 => unfold maxLen; omega
              case a2 => omega
              case a3 => simp
              intro v6 w6 hv6 hg6
              have hb6 : Below wr.heap.size wr w6 := below_append (below_drewN (Below.refl _ _) _) (World.ownsRow_nil _ wr.heap.size 3 1) hg6 (by simp)
              have HO6 : Hid (w6.ownsRow wr.heap.size 3 1 v6 out.length (ints T)) := by show World.ownsRow _ _ _ _ _ _ _; simpa using hv6
              have HB6 := Lib.hid hb6
              have hs6 := hb6.size
              have cx6 := (hb6.cell (p := ⟨b, off + out.length, none⟩) (by show b < wr.heap.size; have := HBT.out.size; omega)).trans cx
              obtain ⟨a6, c6, rfl, -, -⟩ := owns_slice HO6.out
              clear hv6 hg6 hb6
              go_wp2_with (at_builtin; go_must (refine wpList_append_rd rfl _ _ 22 rfl wr.heap.size 3 _ 1 8 Try.underlying22 infoInt rfl (by decide) (.slice a6 out.length c6) out.length (ints T) rfl (owns_below HO6.out ?b0) _ 1 [.int .i64 x] rfl (HLX.out _) (ints_one [x]) ?b1 ?b2 ?b3 ?_))
              case b0 => exact (Below.refl _ _).alloc (Nat.le_refl _) _
              case b1 => unfold maxLen; omega
              case b2 => omega
              case b3 => simp; omega
              intro v7 w7 hv7 hg7
              have hb7 : Below wr.heap.size wr w7 := below_append (Below.to HB6.out ((Below.refl _ _).alloc (Nat.le_refl _) _) hs6) (owns_below HO6.out ((Below.refl _ _).alloc (Nat.le_refl _) _)) hg7 (by simp; omega)
              have HO7 := Lib.hid hv7
              have HB7 := Lib.hid hb7
              have hs7 := hb7.size
              obtain ⟨a7, c7, rfl, -, -⟩ := owns_slice HO7.out
              clear hv7 hg7 hb7 HO6 HB6 hs6
              go_wp2_with (at_builtin; go_must (refine wpList_append_rd rfl _ _ 22 rfl wr.heap.size 3 _ 1 8 Try.underlying22 infoInt rfl (by decide) (.slice a7 (out.length + 1) c7) (out.length + 1) (ints T ++ [.int .i64 x]) rfl HO7.out _ 0 (ints D) rfl (HD.out _ _ _) (ints_one _) ?e1 ?e2 ?e3 ?_))
              case e1 => unfold maxLen; omega
              case e2 => omega
              case e3 => exact hs7
              intro v9 w9 hv9 hg9
              have hb9 : Below wr.heap.size wr w9 := below_append HB7.out HO7.out hg9 hs7
              have HO9 := Lib.hid (HPOST.out w9 v9 _ (by simpa using hv9))
              have HB9 := Lib.hid (Below.to HBT.out hb9 HBT.out.size)
              clear hv9 hg9 hb9 HO7 HB7 hs7
              go_wp2_with fail
              go_roundw
              case rel => exact ⟨out.length + 1, _, _, rfl, by go_num, by omega, HL9.out, HS, HO9, HB9⟩
              case measure => simp [intOf]; omega
            | some g3 =>
              by_cases hck : c3 = out.length
              · subst hck
                go_wp2_with fail
                go_quiet (fail)
                go_wp2_with (at_builtin; go_must (refine wpList_append_rd rfl _ _ 22 rfl wr.heap.size 3 _ 1 8 Try.underlying22 infoInt rfl (by decide) (.slice none 0 0) 0 [] rfl (World.ownsRow_nil _ _ _ _) _ out.length (ints T) rfl (HTX.out.below (below_drewN (Below.refl _ _) _)) (ints_one _) ?a1 ?a2 ?a3 ?_))
                case a1 => unfold maxLen; omega
                case a2 => omega
                case a3 => simp
                intro v6 w6 hv6 hg6
                have hb6 : Below wr.heap.size wr w6 := below_append (below_drewN (Below.refl _ _) _) (World.ownsRow_nil _ wr.heap.size 3 1) hg6 (by simp)
                have HO6 : Hid (w6.ownsRow wr.heap.size 3 1 v6 out.length (ints T)) := by show World.ownsRow _ _ _ _ _ _ _; simpa using hv6
                have HB6 := Lib.hid hb6
                have hs6 := hb6.size
                have cx6 := (hb6.cell (p := ⟨b, off + out.length, none⟩) (by show b < wr.heap.size; have := HBT.out.size; omega)).trans cx
                obtain ⟨a6, c6, rfl, -, -⟩ := owns_slice HO6.out
                clear hv6 hg6 hb6
                go_wp2_with (at_builtin; go_must (refine wpList_append_rd rfl _ _ 22 rfl wr.heap.size 3 _ 1 8 Try.underlying22 infoInt rfl (by decide) (.slice a6 out.length c6) out.length (ints T) rfl (owns_below HO6.out ?b0) _ 1 [.int .i64 x] rfl (HLX.out _) (ints_one [x]) ?b1 ?b2 ?b3 ?_))
                case b0 => exact (Below.refl _ _).alloc (Nat.le_refl _) _
                case b1 => unfold maxLen; omega
                case b2 => omega
                case b3 => simp; omega
                intro v7 w7 hv7 hg7
                have hb7 : Below wr.heap.size wr w7 := below_append (Below.to HB6.out ((Below.refl _ _).alloc (Nat.le_refl _) _) hs6) (owns_below HO6.out ((Below.refl _ _).alloc (Nat.le_refl _) _)) hg7 (by simp; omega)
                have HO7 := Lib.hid hv7
                have HB7 := Lib.hid hb7
                have hs7 := hb7.size
                obtain ⟨a7, c7, rfl, -, -⟩ := owns_slice HO7.out
                clear hv7 hg7 hb7 HO6 HB6 hs6
                go_wp2_with (at_builtin; go_must (refine wpList_append_rd rfl _ _ 22 rfl wr.heap.size 3 _ 1 8 Try.underlying22 infoInt rfl (by decide) (.slice a7 (out.length + 1) c7) (out.length + 1) (ints T ++ [.int .i64 x]) rfl HO7.out _ 0 (ints D) rfl (HD.out _ _ _) (ints_one _) ?e1 ?e2 ?e3 ?_))
                case e1 => unfold maxLen; omega
                case e2 => omega
                case e3 => exact hs7
                intro v9 w9 hv9 hg9
                have hb9 : Below wr.heap.size wr w9 := below_append HB7.out HO7.out hg9 hs7
                have HO9 := Lib.hid (HPOST.out w9 v9 _ (by simpa using hv9))
                have HB9 := Lib.hid (Below.to HBT.out hb9 HBT.out.size)
                clear hv9 hg9 hb9 HO7 HB7 hs7
                go_wp2_with fail
                go_roundw
                case rel => exact ⟨out.length + 1, _, _, rfl, by go_num, by omega, HL9.out, HS, HO9, HB9⟩
                case measure => simp [intOf]; omega
              · go_wp2_with fail
                go_quiet (fail)
                go_wp2_with (at_builtin; go_must (refine wpList_append_rd rfl _ _ 22 rfl wr.heap.size 3 _ 1 8 Try.underlying22 infoInt rfl (by decide) (.slice none 0 0) 0 [] rfl (World.ownsRow_nil _ _ _ _) _ out.length (ints T) rfl (HTX.out.below (below_drewN (Below.refl _ _) _)) (ints_one _) ?a1 ?a2 ?a3 ?_))
                case a1 => unfold maxLen; omega
                case a2 => omega
                case a3 => simp
                intro v6 w6 hv6 hg6
                have hb6 : Below wr.heap.size wr w6 := below_append (below_drewN (Below.refl _ _) _) (World.ownsRow_nil _ wr.heap.size 3 1) hg6 (by simp)
                have HO6 : Hid (w6.ownsRow wr.heap.size 3 1 v6 out.length (ints T)) := by show World.ownsRow _ _ _ _ _ _ _; simpa using hv6
                have HB6 := Lib.hid hb6
                have hs6 := hb6.size
                have cx6 := (hb6.cell (p := ⟨b, off + out.length, none⟩) (by show b < wr.heap.size; have := HBT.out.size; omega)).trans cx
                obtain ⟨a6, c6, rfl, -, -⟩ := owns_slice HO6.out
                clear hv6 hg6 hb6
                go_wp2_with (at_builtin; go_must (refine wpList_append_rd rfl _ _ 22 rfl wr.heap.size 3 _ 1 8 Try.underlying22 infoInt rfl (by decide) (.slice a6 out.length c6) out.length (ints T) rfl (owns_below HO6.out ?b0) _ 1 [.int .i64 x] rfl (HLX.out _) (ints_one [x]) ?b1 ?b2 ?b3 ?_))
                case b0 => exact (Below.refl _ _).alloc (Nat.le_refl _) _
                case b1 => unfold maxLen; omega
                case b2 => omega
                case b3 => simp; omega
                intro v7 w7 hv7 hg7
                have hb7 : Below wr.heap.size wr w7 := below_append (Below.to HB6.out ((Below.refl _ _).alloc (Nat.le_refl _) _) hs6) (owns_below HO6.out ((Below.refl _ _).alloc (Nat.le_refl _) _)) hg7 (by simp; omega)
                have HO7 := Lib.hid hv7
                have HB7 := Lib.hid hb7
                have hs7 := hb7.size
                obtain ⟨a7, c7, rfl, -, -⟩ := owns_slice HO7.out
                clear hv7 hg7 hb7 HO6 HB6 hs6
                go_wp2_with (at_builtin; go_must (refine wpList_append_rd rfl _ _ 22 rfl wr.heap.size 3 _ 1 8 Try.underlying22 infoInt rfl (by decide) (.slice a7 (out.length + 1) c7) (out.length + 1) (ints T ++ [.int .i64 x]) rfl HO7.out _ 0 (ints D) rfl (HD.out _ _ _) (ints_one _) ?e1 ?e2 ?e3 ?_))
                case e1 => unfold maxLen; omega
                case e2 => omega
                case e3 => exact hs7
                intro v9 w9 hv9 hg9
                have hb9 : Below wr.heap.size wr w9 := below_append HB7.out HO7.out hg9 hs7
                have HO9 := Lib.hid (HPOST.out w9 v9 _ (by simpa using hv9))
                have HB9 := Lib.hid (Below.to HBT.out hb9 HBT.out.size)
                clear hv9 hg9 hb9 HO7 HB7 hs7
                go_wp2_with fail
                go_roundw
                case rel => exact ⟨out.length + 1, _, _, rfl, by go_num, by omega, HL9.out, HS, HO9, HB9⟩
                case measure => simp [intOf]; omega
    · obtain hfin : out.length = xs.length := by omega
      have HR : Hid (out.Perm xs ∧ out.Pairwise (· ≤ ·)) := by
        have h := HP.out
        rw [hfin, List.take_length] at h
        exact h
      clear HP hfin
      go_wp2_with fail
      go_ret
      exact ⟨_, rfl, out, HR, HOW.out, HBR.out⟩

end Go.Proofs.Ytbiedadgejgnoaa
