/-
  slices.Clone at returns and at attempts; the program's copies of attempts.
-/
import Derived.Test.YtdhiefgbajogcaaAt
import Derived.Test.YtdhiefgbajogcaaRtX
namespace Go.Proofs.Ytdhiefgbajogcaa
open Go.RowKit

theorem infoAt : (Try.prog.info? 29).map (fun i => (i.zero, i.size, i.bytes)) = some (some (.agg #[.int .i64 0, .int .i64 0, .int .i64 0, .int .i64 0, .slice none 0 0]), 5, 56) := by kernel_rfl

theorem clone_rets (xs : List Ret) (v : Value) (w : World) (hx : IsRts w v xs) (hb : xs.length ≤ 1000000) :
    Calls Try.prog 36 #[v] w fun e w' => ∃ v', e = .returned v' ∧ w'.ownsRow w.heap.size 37 4 v' xs.length (rtCells xs) ∧ Below w.heap.size w w' := by
  obtain ⟨a, cap, rfl, hcap, hcase⟩ := Rd.source hx
  rcases hcase with ⟨rfl, h0⟩ | ⟨ad, rfl, -⟩
  · have hz : xs = [] := by
      have h1 := rtCells_len xs
      rw [h0] at h1
      exact List.eq_nil_of_length_eq_zero (by simp at h1; omega)
    subst hz
    have he := fun w : World => Lib.run_eql_slice_nil (P := Try.prog) w 27 37 none 0 cap 0 0 Try.underlying27
    go_enter Try.func36, Try.ntmps36
    go_wp2
    go_ret
    exact ⟨_, rfl, World.ownsRow_nil _ _ _ _, Below.refl _ _⟩
  · have he := fun w : World => Lib.run_eql_slice_nil (P := Try.prog) w 27 37 (some ad) xs.length cap 0 0 Try.underlying27
    have HX := Lib.hid hx
    clear hx
    go_enter Try.func36, Try.ntmps36
    go_wp2_with (at_builtin; refine wpList_append_rd rfl _ _ 27 rfl w.heap.size 37 _ 4 32 Try.underlying27 infoRt rfl (by decide) _ 0 [] rfl ?own _ xs.length (rtCells xs) rfl ?src (rtCells_one _) ?b1 ?b2 ?b3 ?_)
    case own => exact World.ownsRow_made w #[] 0 (Nat.le_refl _) (Nat.zero_le _) rfl
    case src => exact HX.out.below ((Below.refl _ _).alloc (Nat.le_refl _) _)
    case b1 => unfold maxLen; omega
    case b2 => omega
    case b3 => simp
    intro v' w1 hown hg
    have hbel : Below w.heap.size w w1 := below_append ((Below.refl _ _).alloc (Nat.le_refl _) _) (World.ownsRow_made w #[] 0 (Nat.le_refl _) (Nat.zero_le _) rfl : (w.alloc (.cells #[] 37)).ownsRow w.heap.size 37 4 _ 0 []) hg (by simp)
    have HO := Lib.hid (show w1.ownsRow w.heap.size 37 4 v' xs.length (rtCells xs) from by simpa using hown)
    have HB := Lib.hid hbel
    clear hown hg hbel
    go_wp2
    go_ret
    exact ⟨_, rfl, HO.out, HB.out⟩

theorem clone_ats (l : List At) (us : List Value) (v : Value) (w : World) (hx : IsAtsU w v l us) (hb : l.length ≤ 1000000) :
    Calls Try.prog 65 #[v] w fun e w' => ∃ v', e = .returned v' ∧ w'.ownsRow w.heap.size 29 5 v' l.length (atCells l us) ∧ Below w.heap.size w w' := by
  obtain ⟨a, cap, rfl, hcap, hcase⟩ := Rd.source hx.2.1
  have hcl := atCells_len l us hx.1
  rcases hcase with ⟨rfl, h0⟩ | ⟨ad, rfl, -⟩
  · have hz : l.length = 0 := by rw [h0] at hcl; simp at hcl; omega
    have hzl : l = [] := List.eq_nil_of_length_eq_zero hz
    subst hzl
    have he := fun w : World => Lib.run_eql_slice_nil (P := Try.prog) w 22 29 none 0 cap 0 0 Try.underlying22
    rw [h0]
    clear hx hcl h0
    go_enter Try.func65, Try.ntmps65
    go_wp2
    go_ret
    exact ⟨_, rfl, World.ownsRow_nil _ _ _ _, Below.refl _ _⟩
  · have he := fun w : World => Lib.run_eql_slice_nil (P := Try.prog) w 22 29 (some ad) l.length cap 0 0 Try.underlying22
    have HX := Lib.hid hx
    clear hx
    go_enter Try.func65, Try.ntmps65
    go_wp2_with (at_builtin; refine wpList_append_rd rfl _ _ 22 rfl w.heap.size 29 _ 5 56 Try.underlying22 infoAt rfl (by decide) _ 0 [] rfl ?own _ l.length (atCells l us) rfl ?src (atCells_one _ _ HX.out.ones) ?b1 ?b2 ?b3 ?_)
    case own => exact World.ownsRow_made w #[] 0 (Nat.le_refl _) (Nat.zero_le _) rfl
    case src => exact HX.out.2.1.below ((Below.refl _ _).alloc (Nat.le_refl _) _)
    case b1 => unfold maxLen; omega
    case b2 => omega
    case b3 => simp
    intro v' w1 hown hg
    have hbel : Below w.heap.size w w1 := below_append ((Below.refl _ _).alloc (Nat.le_refl _) _) (World.ownsRow_made w #[] 0 (Nat.le_refl _) (Nat.zero_le _) rfl : (w.alloc (.cells #[] 29)).ownsRow w.heap.size 29 5 _ 0 []) hg (by simp)
    have HO := Lib.hid (show w1.ownsRow w.heap.size 29 5 v' l.length (atCells l us) from by simpa using hown)
    have HB := Lib.hid hbel
    clear hown hg hbel
    go_wp2
    go_ret
    exact ⟨_, rfl, HO.out, HB.out⟩

set_option maxHeartbeats 1000000 in
theorem svcClone (l : List At) (v : Value) (w : World) (hx : IsAts w v l) (hb : l.length ≤ 1000000) (ho : ∀ x ∈ l, x.own.length ≤ 1000000) :
    Calls Try.prog 37 #[v] w fun e w' => ∃ v' us, e = .returned v' ∧ OwnAts w' w.heap.size 29 37 v' l us l.length ∧ Below w.heap.size w w' := by
  obtain ⟨us, hx⟩ := hx
  have HX := Lib.hid hx
  have HCL := Lib.hid (clone_ats l us v w hx hb)
  obtain ⟨a, cap, rfl, hlen, -, -⟩ := hx.open
  unfold maxLen at hlen
  clear hx
  go_enter Try.func37, Try.ntmps37
  go_wp2_with fail
  refine HCL.out.mono ?_
  rintro e w1 ⟨v1, rfl, ho1, hb1⟩
  have HX1 := Lib.hid (HX.out.below hb1)
  have HB1 := Lib.hid hb1
  by_cases hz : l.length = 0
  · have hzl : l = [] := List.eq_nil_of_length_eq_zero hz
    subst hzl
    obtain ⟨a1, c1, rfl, -, -⟩ := owns_slice ho1
    have HO : Hid (OwnAts w1 w.heap.size 29 37 (.slice a1 0 c1) [] us 0) := ⟨HX.out.1, ho1, fun _ _ _ h => absurd h (Nat.not_lt_zero _), fun _ _ _ _ h => absurd h (Nat.not_lt_zero _)⟩
    clear ho1 hb1
    go_wp2_with fail
    go_loopw [4, 9] (fun _ c wr => c = .int .i64 ((0 : Nat) : Int) ∧ wr = w1) (fun _ _ _ => 0)
    case atStart => exact ⟨rfl, rfl⟩
    case round =>
      obtain ⟨rfl, rfl⟩ := hrel
      go_wp2_with fail
      go_ret
      exact ⟨_, us, rfl, HO.out, HB1.out⟩
  · obtain ⟨g, cg, rfl, hg0, hg1, -⟩ := owns_some ho1 (by omega)
    have HO1 : Hid (OwnAts w1 w.heap.size 29 37 (.slice (some ⟨g, 0, none⟩) l.length cg) l us 0) := ⟨HX.out.1, ho1, fun _ _ _ h => absurd h (Nat.not_lt_zero _), fun _ _ _ _ h => absurd h (Nat.not_lt_zero _)⟩
    have HHO := Lib.hid ho
    clear ho1 hb1 hz ho
    go_wp2_with fail
    go_loopw [4, 9] (fun _ c wr => ∃ (k : Nat) (us' : List Value), c = .int .i64 k ∧ k ≤ l.length ∧ g < wr.heap.size ∧ Hid (OwnAts wr w.heap.size 29 37 (.slice (some ⟨g, 0, none⟩) l.length cg) l us' k) ∧ Hid (∀ i, k ≤ i → us'[i]? = us[i]?) ∧ Hid (Below w.heap.size w wr)) (fun _ c _ => l.length - (intOf c).toNat)
    case atStart => exact ⟨0, us, rfl, Nat.zero_le _, hg1, HO1, Lib.hid (fun _ _ => rfl), HB1⟩
    case round =>
      obtain ⟨k, us', rfl, hk, hsize, HOk, HUS, HBk⟩ := hrel
      have ek : IntKind.i64.wrap ((k : Int) + 1) = ((k + 1 : Nat) : Int) := by rw [IntKind.wrap_i64]; omega
      by_cases hlt : k < l.length
      · have hku : k < us.length := by rw [HX.out.1]; exact hlt
        obtain ⟨u, hu⟩ : ∃ u, us[k] = u := ⟨_, rfl⟩
        have HU := Lib.hid ((HX.out.2.2 k hlt hku).below HBk.out)
        rw [hu] at HU
        have hlen' := HOk.out.len
        have hku' : k < us'.length := by rw [hlen']; exact hlt
        have huk : us'[k] = u := by
          have h := HUS.out k (Nat.le_refl _)
          rw [List.getElem?_eq_getElem hku', List.getElem?_eq_getElem hku, hu] at h
          exact Option.some.inj h
        have c4 : wr.cell? ⟨g, k * 5 + 4, none⟩ = some u := by
          rw [HOk.out.row.cellAt _ (by omega), atCells_get l us' hlen' k 4 hlt (by omega), huk]
          rfl
        have hown : l[k].own.length ≤ 1000000 := HHO.out _ (List.getElem_mem hlt)
        obtain ⟨ua0, uc0, rfl, -, -⟩ := HU.out.open
        have hkL : (k : Int) < (l.length : Int) := by omega
        clear hu huk
        go_wp2_with fail
        refine (clone_rets _ _ _ HU.out hown).mono ?_
        rintro e w3 ⟨u', rfl, hu', hb3⟩
        obtain ⟨ua, ucap, rfl, -, -⟩ := owns_slice hu'
        have hO3 := HOk.out.below hb3
        obtain ⟨x4, hc4⟩ : ∃ x, w3.cell? ⟨g, k * 5 + 4, none⟩ = some x :=
          ⟨_, by rw [hO3.row.cellAt _ (by omega), atCells_get l us' hO3.len k 4 hlt (by omega)]; rfl⟩
        have hf4 : w3.frozen? ⟨g, k * 5 + 4, none⟩ = false := hO3.row.frozenAt _
        have hs3 := hb3.size
        have hsB := HBk.out.size
        have HP := Lib.hid (OwnAts.put (by decide) hO3 (C := wr.heap.size) (by omega) HOk.out.lt (by omega) hlt hu')
        have HB3 := Lib.hid ((Below.to HBk.out hb3 (by omega)).setCell (p := ⟨g, k * 5 + 4, none⟩) hg0 (.slice ua l[k].own.length ucap))
        have HUS2 : Hid (∀ i, k + 1 ≤ i → (us'.set k (.slice ua l[k].own.length ucap))[i]? = us[i]?) := fun i hi => by
          rw [List.getElem?_set_ne (by omega)]
          exact HUS.out i (by omega)
        clear hO3 hu' hb3 c4
        go_wp2_with fail
        go_roundw
        case rel => exact ⟨k + 1, _, by go_num, by omega, by simp; omega, HP, HUS2, HB3⟩
        case measure => simp [intOf]; omega
      · obtain rfl : k = l.length := by omega
        go_wp2_with fail
        go_ret
        exact ⟨_, _, rfl, HOk.out, HBk.out⟩

end Go.Proofs.Ytdhiefgbajogcaa
