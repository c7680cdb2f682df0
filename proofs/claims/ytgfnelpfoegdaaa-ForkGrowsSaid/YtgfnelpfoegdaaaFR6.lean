/-
  The law ForkRemands: its walk.
-/
import Derived.Test.YtgfnelpfoegdaaaFWi
import Derived.Test.YtgfnelpfoegdaaaForkI
namespace Go.Proofs.Ytgfnelpfoegdaaa
open Go.RowKit

/-- A branch of a record, as a walk reads it. -/
theorem IsBrs.at {w : World} {v : Value} {l : List Br} (h : IsBrs w v l) {k : Nat} {x : Br} (hx : l[k]? = some x) :
    ∃ b off cap u, v = .slice (some ⟨b, off, none⟩) l.length cap ∧ IsInts w u x.own ∧ b < w.heap.size ∧
      w.cell? ⟨b, off + k * 5, none⟩ = some (.int .i64 x.parent) ∧ w.cell? ⟨b, off + k * 5 + 1, none⟩ = some (.int .i64 x.court) ∧
      w.cell? ⟨b, off + k * 5 + 2, none⟩ = some (.int .i64 x.at_) ∧ w.cell? ⟨b, off + k * 5 + 3, none⟩ = some u ∧ w.cell? ⟨b, off + k * 5 + 4, none⟩ = some (.bool x.opn) := by
  obtain ⟨hk, rfl⟩ := List.getElem?_eq_some_iff.1 hx
  obtain ⟨a, cap, rfl, -, -, hc⟩ := h.open
  obtain ⟨b, off, u, rfl, hu, c0, r⟩ := hc k hk
  exact ⟨b, off, cap, u, rfl, hu, World.block_lt_of_cell? _ _ c0, c0, r⟩

theorem addF_shut {m : List Br} {k : Nat} {x : Br} {ev : Int} (hx : m[k]? = some x) (ho : x.opn = false) : addF m k ev = ([], 41) := by
  unfold addF
  rw [if_neg (by omega), Int.toNat_natCast, hx]
  simp only
  rw [if_pos ho]
theorem forkF_shut {m : List Br} {k : Nat} {x : Br} (hx : m[k]? = some x) (ho : x.opn = false) : forkF m k 0 = ([], 0, 41) := by
  rw [forkF_in hx, if_neg (by omega), if_pos ho]
theorem remandF_shut {m : List Br} {k : Nat} {x : Br} (hx : m[k]? = some x) (ho : x.opn = false) : remandF m k = ([], 41) := by
  unfold remandF
  rw [if_neg (by omega), Int.toNat_natCast, hx]
  simp only
  rw [if_pos ho]

theorem around_nat {n : Int} {m : Nat} (h : 1 ≤ m) : ∃ k : Nat, around n m = k ∧ k < m := by
  have h1 := around_lo n m (by omega)
  have h2 := around_hi n m (by omega)
  exact ⟨(around n m).toNat, by omega, by omega⟩

theorem eventsZ_le {l : List Br} (hg : Good l) (b : Int) : (eventsZ l b).length ≤ 65536 := by
  by_cases h : b < 0
  · rw [eventsZ_neg h]; simp
  · obtain ⟨k, rfl⟩ := Int.eq_ofNat_of_zero_le (by omega : 0 ≤ b)
    rw [eventsZ_nat]
    cases hk : l[k]? with
    | none => rw [events_none (List.getElem?_eq_none_iff.1 hk)]; simp
    | some x =>
      have h1 := events_len k x (hg.str k) hk
      have h2 := (hg.ok hk).s
      omega

set_option maxHeartbeats 2000000 in
set_option maxRecDepth 100000 in
theorem forkRemands_any (xs : List Int) (v : Value) (which : Int) (w : World) (hx : IsInts w v xs) (hw : ∀ x ∈ xs, I64 x) (hi : I64 which) :
    Calls Try.prog 6 #[v, .int .i64 which] w fun e w' => e = .returned (.bool true) ∧ Below w.heap.size w w' := by
  have HBR := Lib.hid (branches_any xs v w hx hw)
  clear hx hw
  go_enter Try.func6, Try.ntmps6
  go_wp2_with fail
  refine HBR.out.mono ?_
  rintro e w0 ⟨v0, rfl, l, hl0, hg, hb0⟩
  have hl256 := hg.1.1
  obtain ⟨k, hk, hkl⟩ := around_nat (n := which) (m := l.length) hg.2
  have HAR := Lib.hid (around_any which l.length hi (by have := hg.2; omega) w0)
  rw [hk] at HAR
  obtain ⟨x, hxk⟩ : ∃ x, l[k]? = some x := ⟨_, List.getElem?_eq_getElem hkl⟩
  obtain ⟨bb, off, cap, u, rfl, hu, hblt, c0, -, -, c3, -⟩ := hl0.at hxk
  have HG := Lib.hid hg.1
  have HL0 := Lib.hid hl0
  have HB0 := Lib.hid hb0
  have HU0 := Lib.hid hu
  have HXK := Lib.hid hxk
  clear hl0 hg hb0 hu hxk hk hi HBR
  go_wp2_with fail
  refine HAR.out.mono ?_
  rintro e w' ⟨rfl, rfl⟩
  clear HAR
  have h3 := forkRemand l _ k w0 HL0.out HG.out (by omega)
  go_wp2_with fail
  by_cases hz : (remandF l k).2 = 0
  · obtain ⟨p, x', y, hx', hy, hpar, hpk, hm⟩ := remandF_ok HG.out hz
    have hxx : x' = x := by have := HXK.out; rw [hx'] at this; exact Option.some.inj this
    subst hxx
    have HGm : Hid (Good (remandF l k).1) := remandF_good HG.out hz
    have hev := events_remand HG.out hx' hy hpk
    rw [hm] at h3 HGm
    obtain ⟨m, hme⟩ : ∃ m, m = ((l.set p { y with own := y.own ++ x'.own }).set k { x' with opn := false }) := ⟨_, rfl⟩
    rw [← hme] at h3 HGm hev
    have hml : m.length = l.length := by rw [hme]; simp
    have hmk : m[k]? = some { x' with opn := false } := by rw [hme, List.getElem?_set_self (by simpa using hkl)]
    have HEV := Lib.hid hev
    have hpl : p < l.length := by omega
    have HS1 := Lib.hid (addF_shut (ev := 1) hmk rfl)
    have HS2 := Lib.hid (forkF_shut hmk rfl)
    have HS3 := Lib.hid (remandF_shut hmk rfl)
    have HOX : Hid (x'.own.length ≤ 65536) := (HG.out.ok hx').own
    have HMK := Lib.hid hmk
    rw [hpar] at c0
    clear hev hz hm hme hx' hy hmk hpar HXK
    refine Calls.mono h3 ?_
    rintro e w3 ⟨v3, rfl, hv3, hb3⟩
    obtain ⟨b3, off3, cap3, u3, rfl, -, hblt3, -, -, -, -, d4⟩ := IsBrs.at hv3 HMK.out
    have c03 := (hb3.cell hblt).trans c0
    have c33 := (hb3.cell hblt).trans c3
    have HV3 := Lib.hid hv3
    have HU3 := Lib.hid (HU0.out.below hb3)
    have HL3 := Lib.hid (HL0.out.below hb3)
    have HB3 := Lib.hid (Below.to HB0.out hb3 HB0.out.size)
    have hbl3 : bb < w3.heap.size := Nat.lt_of_lt_of_le hblt hb3.size
    rw [hml] at HV3 ⊢
    simp only at d4
    clear hb3 hv3 h3 c0 c3 HMK
    go_wp2_with fail
    go_loopw [10] (fun i wr => ∃ j : Nat, i = .int .i64 j ∧ j ≤ l.length ∧ w3.heap.size ≤ wr.heap.size ∧ Hid (Below w3.heap.size w3 wr)) (fun i _ => l.length + 1 - (intOf i).toNat)
    case atStart => exact ⟨0, rfl, by omega, Nat.le_refl _, Lib.hid (Below.refl _ _)⟩
    case round =>
      obtain ⟨j, rfl, hj, hsz, HB⟩ := hrel
      have HL := Lib.hid (HL3.out.below HB.out)
      have HV := Lib.hid (HV3.out.below HB.out)
      have HU := Lib.hid (HU3.out.below HB.out)
      have e0 := (HB.out.cell hbl3).trans c03
      have e3 := (HB.out.cell hbl3).trans c33
      have hbr : bb < wr.heap.size := Nat.lt_of_lt_of_le hbl3 hsz
      by_cases hjl : (j : Int) < (l.length : Int)
      · have hjn : j < l.length := by omega
        have HEL := Lib.hid (eventsZ_le HG.out (j : Int))
        have HEJ : Hid (eventsZ m (j : Int) = eventsZ l (j : Int) ++ (if j = p then x'.own else [])) := by show _ = _; rw [eventsZ_nat, eventsZ_nat]; exact HEV.out j hjn
        go_wp2_with fail
        refine (forkEventsZ l _ j wr HL.out HG.out).mono ?_
        rintro e w4 ⟨v4, rfl, hv4, hb4⟩
        have HV4 := Lib.hid hv4
        have HB4 := Lib.hid hb4
        clear hv4 hb4
        go_wp2_with (at_builtin; go_must (refine wpList_append_rd rfl _ _ 23 rfl wr.heap.size 3 _ 1 8 Try.underlying23 infoInt rfl (by decide) _ 0 [] rfl (World.ownsRow_nil _ _ _ _) v4 (eventsZ l j).length (ints (eventsZ l j)) rfl HV4.out (ints_one _) ?b1 ?b2 ?b3 ?_))
        case b1 => have := HEL.out; unfold maxLen; omega
        case b2 => have := HEL.out; omega
        case b3 => exact HB4.out.size
        intro v5 w5 hrow5 hg5
        have hB5 : Below wr.heap.size wr w5 := below_append HB4.out (World.ownsRow_nil w4 wr.heap.size 3 1) hg5 HB4.out.size
        have hR5 : Hid (w5.ownsRow wr.heap.size 3 1 v5 (eventsZ l j).length (ints (eventsZ l j))) := by
          show World.ownsRow _ _ _ _ _ _ _
          simpa using hrow5
        have HB5 := Lib.hid hB5
        clear hB5 hrow5 hg5
        by_cases hjp : j = p
        · subst hjp
          have HU5 := Lib.hid (HU.out.below HB5.out)
          have e35 := (HB5.out.cell hbr).trans e3
          have HEJ2 : Hid (eventsZ m (j : Int) = eventsZ l (j : Int) ++ x'.own) := by
            have := HEJ.out
            rw [if_pos rfl] at this
            exact this
          clear HEJ
          go_wp2_with (at_builtin; go_must (refine wpList_append_rd rfl _ _ 23 rfl wr.heap.size 3 _ 1 8 Try.underlying23 infoInt rfl (by decide) v5 (eventsZ l j).length (ints (eventsZ l j)) rfl hR5.out u x'.own.length (ints x'.own) rfl HU5.out (ints_one _) ?b1 ?b2 ?b3 ?_))
          case b1 => have := HEL.out; have := HOX.out; unfold maxLen; omega
          case b2 => have := HEL.out; have := HOX.out; omega
          case b3 => exact HB5.out.size
          intro v6 w6 hrow6 hg6
          have hB6 : Below wr.heap.size wr w6 := below_append HB5.out hR5.out hg6 HB5.out.size
          have hR6 : Hid (IsInts w6 v6 (eventsZ m j)) := by
            show IsInts _ _ _
            rw [HEJ2.out]
            refine IsInts.of_owns (B := wr.heap.size) (e := 3) (n := (eventsZ l j).length + x'.own.length) ?_
            rw [ints_append]
            exact hrow6
          have HB6 := Lib.hid hB6
          clear hB6 hrow6 hg6
          go_wp2_with fail
          refine (forkEventsZ m _ j w6 (HV.out.below HB6.out) HGm.out).mono ?_
          rintro e w7 ⟨v7, rfl, hv7, hb7⟩
          have HV7 := Lib.hid hv7
          have HR7 := Lib.hid (hR6.out.below hb7)
          have HB7 := Lib.hid (Below.to HB6.out hb7 HB6.out.size)
          clear hv7 hb7
          go_wp2_with fail
          refine (same_eq _ _ _ _ HV7.out HR7.out).mono ?_
          rintro e w8 ⟨rfl, n8, hw8⟩
          have hb8 : Below w7.heap.size w7 w8 := by rw [hw8]; exact below_drewN (Below.refl _ _) _
          have HB8 := Lib.hid (Below.to HB7.out hb8 HB7.out.size)
          have HB9 := Lib.hid (Below.to HB.out HB8.out HB.out.size)
          clear hw8 hb8
          go_wp2_with fail
          go_roundw
          case rel => exact ⟨j + 1, by go_num, by omega, HB9.out.size, HB9⟩
          case measure => simp [intOf]; omega
        · have HR5 : Hid (IsInts w5 v5 (eventsZ m j)) := by
            show IsInts _ _ _
            rw [HEJ.out, if_neg hjp, List.append_nil]
            exact IsInts.of_owns hR5.out
          have hne : ((j : Int) == (p : Int)) = false := by simp; omega
          clear HEJ
          go_wp2_with fail
          refine (forkEventsZ m _ j w5 (HV.out.below HB5.out) HGm.out).mono ?_
          rintro e w7 ⟨v7, rfl, hv7, hb7⟩
          have HV7 := Lib.hid hv7
          have HR7 := Lib.hid (HR5.out.below hb7)
          have HB7 := Lib.hid (Below.to HB5.out hb7 HB5.out.size)
          clear hv7 hb7
          go_wp2_with fail
          refine (same_eq _ _ _ _ HV7.out HR7.out).mono ?_
          rintro e w8 ⟨rfl, n8, hw8⟩
          have hb8 : Below w7.heap.size w7 w8 := by rw [hw8]; exact below_drewN (Below.refl _ _) _
          have HB8 := Lib.hid (Below.to HB7.out hb8 HB7.out.size)
          have HB9 := Lib.hid (Below.to HB.out HB8.out HB.out.size)
          clear hw8 hb8
          go_wp2_with fail
          go_roundw
          case rel => exact ⟨j + 1, by go_num, by omega, HB9.out.size, HB9⟩
          case measure => simp [intOf]; omega
      · have HB6 := Lib.hid (Below.to HB3.out HB.out HB3.out.size)
        go_wp2_with fail
        have h7 := forkAdd m _ k 1 wr HV.out HGm.out (by omega)
        rw [HS1.out] at h7
        refine Calls.mono h7 ?_
        rintro e w7 ⟨v7, rfl, -, hb7⟩
        have HV7 := Lib.hid (HV.out.below hb7)
        have HB7 := Lib.hid (Below.to HB6.out hb7 HB6.out.size)
        clear hb7 h7
        go_wp2_with fail
        have h8 := forkFork m _ k 0 w7 HV7.out HGm.out (by omega)
        rw [HS2.out] at h8
        refine Calls.mono h8 ?_
        rintro e w8 ⟨v8, rfl, -, hb8⟩
        have HV8 := Lib.hid (HV7.out.below hb8)
        have HB8 := Lib.hid (Below.to HB7.out hb8 HB7.out.size)
        clear hb8 h8
        go_wp2_with fail
        have h9 := forkRemand m _ k w8 HV8.out HGm.out (by omega)
        rw [HS3.out] at h9
        refine Calls.mono h9 ?_
        rintro e w9 ⟨v9, rfl, -, hb9⟩
        have HB9 := Lib.hid (Below.to HB8.out hb9 HB8.out.size)
        clear hb9 h9
        go_wp2_with fail
        refine (lives_any _).mono ?_
        rintro e w99 ⟨rfl, hb99⟩
        go_wp2_with fail
        go_ret
        exact ⟨rfl, Below.to HB9.out hb99 HB9.out.size⟩
  · have hzz : (remandF l k).1 = [] := remandF_err hz
    have hz' : ((remandF l k).2 != 0) = true := by simpa using hz
    refine Calls.mono h3 ?_
    rintro e w3 ⟨v3, rfl, hv3, hb3⟩
    obtain ⟨a3, cap3, rfl, -, -, -⟩ := hv3.open
    rw [hzz]
    have HB3 := Lib.hid (Below.to HB0.out hb3 HB0.out.size)
    clear hb3 hv3 h3 hz hzz
    go_wp2_with fail
    refine (lives_any _).mono ?_
    rintro e w99 ⟨rfl, hb99⟩
    go_wp2_with fail
    go_ret
    exact ⟨rfl, Below.to HB3.out hb99 HB3.out.size⟩

end Go.Proofs.Ytgfnelpfoegdaaa
