/-
  Contracts of Add and Remand, of the program and of the reference.
  Contracts of Remand, of the program and of the reference.
-/
import Derived.Test.YtgfnelpfoegdaaaDoorFW8
namespace Go.Proofs.YtgfnelpfoegdaaaDoor
open Go.RowKit

theorem addF_out {l : List Br} {b ev : Int} (h : ¬ (0 ≤ b ∧ b < l.length)) : addF l b ev = ([], 3) := by
  unfold addF
  by_cases hb0 : b < 0
  · rw [if_pos hb0]
  · rw [if_neg hb0, List.getElem?_eq_none (by omega)]

theorem addF_in {l : List Br} {k : Nat} {x : Br} {ev : Int} (h : l[k]? = some x) :
    addF l k ev = (if x.opn = false then ([], 41) else if 65536 ≤ sz x then ([], 2) else (l.set k { x with own := x.own ++ [ev] }, 0)) := by
  unfold addF
  rw [if_neg (by omega), Int.toNat_natCast, h]

set_option maxHeartbeats 1000000 in
set_option maxRecDepth 100000 in
theorem forkAdd (l : List Br) (v : Value) (b ev : Int) (w : World) (hl : IsBrs w v l) (hg : Good l) (hb : b ≤ 9223372036854775807) :
    Calls Tryd.prog 21 #[v, .int .i64 b, .int .i64 ev] w (Ret2 w (addF l b ev)) := by
  have HL := Lib.hid hl; clear hl
  have hob := open_any l v b w HL.out hb
  by_cases hin : 0 ≤ b ∧ b < l.length
  · obtain ⟨k, rfl⟩ := Int.eq_ofNat_of_zero_le hin.1
    have hk : k < l.length := by omega
    have hx := List.getElem?_eq_getElem hk
    have hok := hg.ok hx
    rw [openF_in hx] at hob
    rw [addF_in hx]
    cases ho : l[k].opn with
    | false =>
      rw [if_pos rfl]
      rw [ho] at hob
      simp only [Bool.false_eq_true, if_false] at hob
      have HOB := Lib.hid hob
      clear hob hok hx hin hg ho
      go_enter Tryd.func21, Tryd.ntmps21
      go_wp2_with (first | (go_at_call 44; refine HOB.out.mono ?_; rintro e w' ⟨rfl, rfl⟩))
      go_ret2
      exact ⟨_, rfl, IsBrs.nil _ _ _, Below.refl _ _⟩
    | true =>
      rw [if_neg (by simp)]
      rw [ho] at hob
      simp only [if_true] at hob
      have HOB := Lib.hid hob
      have hsz1 := hok.a1
      have hsb : Hid (sz l[k] ≤ 9000000000000000000) := (by have := hok.s; show sz l[k] ≤ _; omega)
      have HX := Lib.hid hx
      by_cases hfull : 65536 ≤ sz l[k]
      · rw [if_pos hfull]
        clear hob hok hx hin hg ho
        go_enter Tryd.func21, Tryd.ntmps21
        go_wp2_with (first | (go_at_call 44; refine HOB.out.mono ?_; rintro e w' ⟨rfl, rfl⟩) | (go_at_call 29; refine (size_any l v k l[k] _ HL.out HX.out hsz1 hsb.out).mono ?_; rintro e w2 ⟨rfl, n2, rfl⟩))
        go_ret2
        exact ⟨_, rfl, IsBrs.nil _ _ _, below_drewN (Below.refl _ _) _⟩
      · rw [if_neg hfull]
        have HOW := Lib.hid hg.owns
        have HOP := Lib.hid ho
        have hol := hok.own
        have HL6 : Hid (l.length ≤ 1000000) := (by have := hg.1; show _ ≤ _; omega)
        clear hob hok hx hin hg ho
        go_enter Tryd.func21, Tryd.ntmps21
        go_wp2_with (first | (go_at_call 44; refine HOB.out.mono ?_; rintro e w' ⟨rfl, rfl⟩) | (go_at_call 29; refine (size_any l v k l[k] _ HL.out HX.out hsz1 hsb.out).mono ?_; rintro e w2 ⟨rfl, n2, rfl⟩))
        refine (forkClone l v _ (HL.out.below (below_drewN (Below.refl _ _) _)) HL6.out HOW.out).mono ?_
        rintro e w1 ⟨v1, us, rfl, hO1, hb1⟩
        have hB1 : Below w.heap.size w w1 := Below.trans (below_drewN (Below.refl _ _) n2) hb1
        have hO : OwnBrs w1 w.heap.size 27 3 v1 l us l.length := hO1
        obtain ⟨g, cap, rfl, hgB, hgs, hcap⟩ := owns_some hO.row (by omega)
        have hku : k < us.length := by rw [hO.len]; exact hk
        obtain ⟨uk, huk⟩ : ∃ uk, us[k] = uk := ⟨_, rfl⟩
        have d3 : w1.cell? ⟨g, k * 5 + 3, none⟩ = some uk := by
          rw [hO.row.cellAt _ (by omega), brCells_get l us hO.len k 3 hk (by omega), ← huk]; rfl
        have howk := hO.own k hk hku hk
        rw [huk] at howk
        have HOWK := Lib.hid howk
        have hsrc : Hid (Rd (w1.alloc (.cells #[.int .i64 ev] 3)) (.slice (some ⟨w1.heap.size, 0, none⟩) 1 1) 1 1 [.int .i64 ev]) := Rd.lit w1 #[.int .i64 ev] 3 1 1 rfl (by unfold maxLen; omega)
        have HOO := Lib.hid hO
        have HBB := Lib.hid hB1
        have HUK := Lib.hid huk
        have hs1 := hB1.size
        clear hO hO1 hb1 hB1 howk huk
        go_wp2_with (at_builtin; go_must (refine wpList_append_rd rfl _ _ 22 rfl w.heap.size 3 _ 1 8 Tryd.underlying22 infoInt rfl (by decide) uk l[k].own.length (ints l[k].own) rfl (HOWK.out.alloc _) _ 1 [.int .i64 ev] rfl hsrc.out (by intro c hc; simp at hc; subst hc; rfl) ?b1 ?b2 ?b3 ?_))
        case b1 => unfold maxLen; omega
        case b2 => omega
        case b3 => simp; omega
        intro v2 w2 hv2 hg2
        obtain ⟨va, vc, rfl, -, -⟩ := owns_slice hv2
        have hOA := HOO.out.below ((Below.refl w1.heap.size w1).alloc (Nat.le_refl _) (.cells #[.int .i64 ev] 3))
        have hB2 : Below w.heap.size w w2 := below_append (HBB.out.alloc HBB.out.size (.cells #[.int .i64 ev] 3)) (HOWK.out.alloc (.cells #[.int .i64 ev] 3)) hg2 (by simp; omega)
        have hne : uk.ownBlock ≠ some g := by
          rcases owns_apart HOWK.out HOO.out.row (by decide) with h | h
          · rw [h]; simp
          · simpa [Value.ownBlock] using h
        have hrow2 := hOA.row.kept hg2 (by right; simp only [Value.ownBlock]; exact fun e => hne e.symm)
        obtain ⟨c4, hc4⟩ : ∃ x, w2.cell? ⟨g, k * 5 + 3, none⟩ = some x := ⟨_, by rw [hrow2.cellAt _ (by omega), brCells_get l us HOO.out.len k 3 hk (by omega)]; rfl⟩
        have hf4 : w2.frozen? ⟨g, k * 5 + 3, none⟩ = false := hrow2.frozenAt _
        have hU := OwnBrs.upd (own' := l[k].own ++ [ev]) (v' := .slice va (l[k].own.length + 1) vc) (by decide) hOA hk hku (by simpa [ints] using hv2) (by rw [HUK.out]; exact hg2)
        have HU := Lib.hid hU.reads
        have HB3 := Lib.hid (hB2.setCell (p := ⟨g, k * 5 + 3, none⟩) hgB (.slice va (l[k].own.length + 1) vc))
        clear hU hrow2 hB2 hOA hv2 hg2 hne
        go_wp2
        go_ret2
        have h9 := HU.out
        simp only [HOP.out] at h9
        exact ⟨_, rfl, ⟨_, h9⟩, HB3.out⟩
  · rw [openF_out hin] at hob
    rw [addF_out hin]
    have HOB := Lib.hid hob
    clear hob hin hg
    go_enter Tryd.func21, Tryd.ntmps21
    go_wp2_with (first | (go_at_call 44; refine HOB.out.mono ?_; rintro e w' ⟨rfl, rfl⟩))
    go_ret2
    exact ⟨_, rfl, IsBrs.nil _ _ _, Below.refl _ _⟩

set_option maxHeartbeats 1000000 in
set_option maxRecDepth 100000 in
theorem refAdd (l : List Br) (v : Value) (b ev : Int) (w : World) (hl : IsBrs w v l) (hg : Good l) :
    Calls Tryd.prog 16 #[v, .int .i64 b, .int .i64 ev] w (Ret2 w (addF l b ev)) := by
  have HL := Lib.hid hl
  obtain ⟨ad, cap0, hv, hl63, -, hc⟩ := hl.open
  subst hv
  unfold maxLen at hl63
  by_cases hin : 0 ≤ b ∧ b < l.length
  · obtain ⟨k, rfl⟩ := Int.eq_ofNat_of_zero_le hin.1
    have hk : k < l.length := by omega
    have hx := List.getElem?_eq_getElem hk
    have hok := hg.ok hx
    have hdh : decide ((0 : Int) ≤ (k : Int) ∧ (k : Int) < (l.length : Int)) = true := by simp; omega
    obtain ⟨bb, off, u, ha, hu, -, -, -, -, c4⟩ := hc k hk
    subst ha
    rw [addF_in hx]
    cases ho : l[k].opn with
    | false =>
      rw [if_pos rfl]
      rw [ho] at c4
      clear hok hx hin hg ho hc hl hu
      go_enter Tryd.func16, Tryd.ntmps16
      go_wp2_with (first | (go_at_call 39; refine (refhas_any _ _ _ _ _).mono ?_; rintro e w' ⟨rfl, rfl⟩))
      go_ret2
      exact ⟨_, rfl, IsBrs.nil _ _ _, Below.refl _ _⟩
    | true =>
      rw [if_neg (by simp)]
      rw [ho] at c4
      have hel : ((events l k).length : Int) = sz l[k] := events_len k _ (hg.str _) hx
      have hev := refEventsZ l _ k w HL.out hg
      rw [eventsZ_nat] at hev
      have HEV := Lib.hid hev
      by_cases hfull : 65536 ≤ sz l[k]
      · rw [if_pos hfull]
        clear hok hx hin hg ho hc hl hu hev
        go_enter Tryd.func16, Tryd.ntmps16
        go_wp2_with (first | (go_at_call 39; refine (refhas_any _ _ _ _ _).mono ?_; rintro e w' ⟨rfl, rfl⟩) | (go_at_call 41; refine HEV.out.mono ?_; rintro e w2 ⟨v2, rfl, hv2, hb2⟩; obtain ⟨a2, c2, rfl, -, -, -⟩ := hv2.open; have HB2 := Lib.hid hb2; clear hb2 hv2))
        go_ret2
        exact ⟨_, rfl, IsBrs.nil _ _ _, HB2.out⟩
      · rw [if_neg hfull]
        have HOW := Lib.hid hg.owns
        have HOP := Lib.hid ho
        have hol := hok.own
        have HL6 : Hid (l.length ≤ 1000000) := (by have := hg.1; show _ ≤ _; omega)
        clear hok hx hin hg ho hc hl hu hev
        go_enter Tryd.func16, Tryd.ntmps16
        go_wp2_with (first | (go_at_call 39; refine (refhas_any _ _ _ _ _).mono ?_; rintro e w' ⟨rfl, rfl⟩) | (go_at_call 41; refine HEV.out.mono ?_; rintro e w2 ⟨v2, rfl, hv2, hb2⟩; obtain ⟨a2, c2, rfl, -, -, -⟩ := hv2.open; have HB2 := Lib.hid hb2; clear hb2 hv2))
        refine (refClone l _ _ (HL.out.below HB2.out) HL6.out HOW.out).mono ?_
        rintro e w1 ⟨v1, us, rfl, hO1, hb1⟩
        have hB1 : Below w.heap.size w w1 := Below.to HB2.out hb1 HB2.out.size
        have hO : OwnBrs w1 w.heap.size 27 3 v1 l us l.length := hO1.mono HB2.out.size
        obtain ⟨g, cap, rfl, hgB, hgs, hcap⟩ := owns_some hO.row (by omega)
        have hku : k < us.length := by rw [hO.len]; exact hk
        obtain ⟨uk, huk⟩ : ∃ uk, us[k] = uk := ⟨_, rfl⟩
        have d3 : w1.cell? ⟨g, k * 5 + 3, none⟩ = some uk := by
          rw [hO.row.cellAt _ (by omega), brCells_get l us hO.len k 3 hk (by omega), ← huk]; rfl
        have howk := hO.own k hk hku hk
        rw [huk] at howk
        have HOWK := Lib.hid howk
        have hsrc : Hid (Rd (w1.alloc (.cells #[.int .i64 ev] 3)) (.slice (some ⟨w1.heap.size, 0, none⟩) 1 1) 1 1 [.int .i64 ev]) := Rd.lit w1 #[.int .i64 ev] 3 1 1 rfl (by unfold maxLen; omega)
        have HOO := Lib.hid hO
        have HBB := Lib.hid hB1
        have HUK := Lib.hid huk
        have hs1 := hB1.size
        clear hO hO1 hb1 hB1 howk huk HB2
        go_wp2_with (at_builtin; go_must (refine wpList_append_rd rfl _ _ 22 rfl w.heap.size 3 _ 1 8 Tryd.underlying22 infoInt rfl (by decide) uk l[k].own.length (ints l[k].own) rfl (HOWK.out.alloc _) _ 1 [.int .i64 ev] rfl hsrc.out (by intro c hc; simp at hc; subst hc; rfl) ?b1 ?b2 ?b3 ?_))
        case b1 => unfold maxLen; omega
        case b2 => omega
        case b3 => simp; omega
        intro v2 w2 hv2 hg2
        obtain ⟨va, vc, rfl, -, -⟩ := owns_slice hv2
        have hOA := HOO.out.below ((Below.refl w1.heap.size w1).alloc (Nat.le_refl _) (.cells #[.int .i64 ev] 3))
        have hB2 : Below w.heap.size w w2 := below_append (HBB.out.alloc HBB.out.size (.cells #[.int .i64 ev] 3)) (HOWK.out.alloc (.cells #[.int .i64 ev] 3)) hg2 (by simp; omega)
        have hne : uk.ownBlock ≠ some g := by
          rcases owns_apart HOWK.out HOO.out.row (by decide) with h | h
          · rw [h]; simp
          · simpa [Value.ownBlock] using h
        have hrow2 := hOA.row.kept hg2 (by right; simp only [Value.ownBlock]; exact fun e => hne e.symm)
        obtain ⟨c4, hc4⟩ : ∃ x, w2.cell? ⟨g, k * 5 + 3, none⟩ = some x := ⟨_, by rw [hrow2.cellAt _ (by omega), brCells_get l us HOO.out.len k 3 hk (by omega)]; rfl⟩
        have hf4 : w2.frozen? ⟨g, k * 5 + 3, none⟩ = false := hrow2.frozenAt _
        have hU := OwnBrs.upd (own' := l[k].own ++ [ev]) (v' := .slice va (l[k].own.length + 1) vc) (by decide) hOA hk hku (by simpa [ints] using hv2) (by rw [HUK.out]; exact hg2)
        have HU := Lib.hid hU.reads
        have HB3 := Lib.hid (hB2.setCell (p := ⟨g, k * 5 + 3, none⟩) hgB (.slice va (l[k].own.length + 1) vc))
        clear hU hrow2 hB2 hOA hv2 hg2 hne
        go_wp2
        go_ret2
        have h9 := HU.out
        simp only [HOP.out] at h9
        exact ⟨_, rfl, ⟨_, h9⟩, HB3.out⟩
  · rw [addF_out hin]
    have hd : decide (0 ≤ b ∧ b < (l.length : Int)) = false := by simpa using hin
    clear hin hg hc hl
    go_enter Tryd.func16, Tryd.ntmps16
    go_wp2_with (first | (go_at_call 39; refine (refhas_any _ _ _ _ _).mono ?_; rintro e w' ⟨rfl, rfl⟩))
    go_ret2
    exact ⟨_, rfl, IsBrs.nil _ _ _, Below.refl _ _⟩

end Go.Proofs.YtgfnelpfoegdaaaDoor

namespace Go.Proofs.YtgfnelpfoegdaaaDoor
open Go.RowKit

theorem remand1 (p c a b : Int) (u : Value) (o : Bool) (ua : Option Addr) (un uc : Nat) (hu : u = .slice ua un uc) (Bb : Nat) (w : World) (hB : w.cell? ⟨Bb, 0, none⟩ = some (.int .i64 b)) (hlt : Bb < w.heap.size) :
    Calls Tryd.prog 46 #[.agg #[.int .i64 p, .int .i64 c, .int .i64 a, u, .bool o], .pointer (some ⟨Bb, 0, none⟩)] w fun e w' => e = .returned (.bool (o && p == b)) ∧ Below w.heap.size w w' := by
  subst hu
  have hB1 : ∀ ob, (w.alloc ob).cell? ⟨Bb, 0, none⟩ = some (.int .i64 b) := fun ob => by rw [World.cell?_alloc_lt _ _ _ hlt]; exact hB
  cases o with
  | false =>
    go_enter Tryd.func46, Tryd.ntmps46
    go_wp2
    go_ret
    exact ⟨rfl, (Below.refl _ _).alloc (Nat.le_refl _) _⟩
  | true =>
    go_enter Tryd.func46, Tryd.ntmps46
    go_wp2
    go_ret
    exact ⟨rfl, (Below.refl _ _).alloc (Nat.le_refl _) _⟩

def asked (b : Int) (y : Br) : Bool := y.opn && y.parent == b

set_option maxRecDepth 100000 in
theorem indexFunc (l : List Br) (v : Value) (b : Int) (Bb : Nat) (w : World) (hl : IsBrs w v l) (hB : w.cell? ⟨Bb, 0, none⟩ = some (.int .i64 b)) (hlt : Bb < w.heap.size) :
    Calls Tryd.prog 63 #[v, .func (.func 46) #[] #[.pointer (some ⟨Bb, 0, none⟩)]] w
      fun e w' => ∃ r : Int, e = .returned (.int .i64 r) ∧ (decide (0 ≤ r) = l.any (asked b)) ∧ Below w.heap.size w w' := by
  obtain ⟨ad, cap0, hv, hl63, -, hc⟩ := hl.open
  subst hv
  unfold maxLen at hl63
  have HC := Lib.hid hc
  have HB := Lib.hid hB
  clear hc hl hB
  go_enter Tryd.func63, Tryd.ntmps63
  go_wp2_with fail
  go_loopw [5, 8] (fun _ c wr => ∃ k : Nat, c = .int .i64 k ∧ k ≤ l.length ∧ w.heap.size ≤ wr.heap.size ∧ Hid (Below w.heap.size w wr) ∧ Hid ((l.take k).any (asked b) = false)) (fun _ c _ => l.length - (intOf c).toNat)
  case atStart => exact ⟨0, rfl, Nat.zero_le _, Nat.le_refl _, Below.refl _ _, rfl⟩
  case round =>
    obtain ⟨k, rfl, hk, hsz, HBl, HN⟩ := hrel
    by_cases hkl : k < l.length
    · obtain ⟨bb, off, u, rfl, hu, c0, c1, c2, c3, c4⟩ := HC.out k hkl
      obtain ⟨ua, uc, rfl, -, -, -⟩ := hu.open
      have hblt : bb < w.heap.size := World.block_lt_of_cell? _ _ c0
      have d0 : wr.cell? ⟨bb, off + k * 5, none⟩ = some (.int .i64 l[k].parent) := by rw [HBl.out.cell hblt]; exact c0
      have d1 : wr.cell? ⟨bb, off + k * 5 + 1, none⟩ = some (.int .i64 l[k].court) := by rw [HBl.out.cell hblt]; exact c1
      have d2 : wr.cell? ⟨bb, off + k * 5 + 2, none⟩ = some (.int .i64 l[k].at_) := by rw [HBl.out.cell hblt]; exact c2
      have d3 : wr.cell? ⟨bb, off + k * 5 + 3, none⟩ = some (.slice ua l[k].own.length uc) := by rw [HBl.out.cell hblt]; exact c3
      have d4 : wr.cell? ⟨bb, off + k * 5 + 4, none⟩ = some (.bool l[k].opn) := by rw [HBl.out.cell hblt]; exact c4
      have hBr : Hid (wr.cell? ⟨Bb, 0, none⟩ = some (.int .i64 b)) := by show _ = _; rw [HBl.out.cell hlt]; exact HB.out
      have htk : Hid ((l.take (k + 1)).any (asked b) = asked b l[k]) := by
        show _ = _
        rw [List.take_succ_eq_append_getElem hkl, List.any_append, HN.out]; simp
      have hany : Hid (asked b l[k] = true → l.any (asked b) = true) := fun h => List.any_eq_true.2 ⟨_, List.getElem_mem hkl, h⟩
      clear c0 c1 c2 c3 c4 hu
      cases hq : asked b l[k] with
      | false =>
        have hq2 : (l[k].opn && l[k].parent == b) = false := hq
        rw [hq] at htk
        clear hq
        go_wp2_with (go_at_call 46; refine (remand1 _ _ _ _ _ _ _ _ _ rfl _ _ hBr.out (by omega)).mono ?_; rintro e w1 ⟨rfl, hb1⟩; have HB1 := Lib.hid (Below.to HBl.out hb1 hsz); have hsz1 := HB1.out.size; clear hb1)
        go_roundw
        case rel => exact ⟨k + 1, by go_num, by omega, hsz1, HB1, htk⟩
        case measure => simp [intOf]; omega
      | true =>
        have hq2 : (l[k].opn && l[k].parent == b) = true := hq
        have hA := hany.out hq
        have HA := Lib.hid hA
        clear hq hA
        go_wp2_with (go_at_call 46; refine (remand1 _ _ _ _ _ _ _ _ _ rfl _ _ hBr.out (by omega)).mono ?_; rintro e w1 ⟨rfl, hb1⟩; have HB1 := Lib.hid (Below.to HBl.out hb1 hsz); clear hb1)
        go_ret
        exact ⟨_, rfl, by rw [HA.out]; simp, HB1.out⟩
    · obtain rfl : k = l.length := by omega
      go_wp2
      go_ret
      have h9 := HN.out
      rw [List.take_length] at h9
      exact ⟨_, rfl, by rw [h9]; simp, HBl.out⟩

theorem containsFunc (l : List Br) (v : Value) (b : Int) (Bb : Nat) (w : World) (hl : IsBrs w v l) (hB : w.cell? ⟨Bb, 0, none⟩ = some (.int .i64 b)) (hlt : Bb < w.heap.size) :
    Calls Tryd.prog 45 #[v, .func (.func 46) #[] #[.pointer (some ⟨Bb, 0, none⟩)]] w
      fun e w' => e = .returned (.bool (l.any (asked b))) ∧ Below w.heap.size w w' := by
  have H := Lib.hid (indexFunc l v b Bb w hl hB hlt)
  clear hl hB hlt
  go_enter Tryd.func45, Tryd.ntmps45
  go_wp2_with (go_at_call 63; refine H.out.mono ?_; rintro e w1 ⟨r, rfl, hr, hb1⟩)
  go_ret
  exact ⟨ret_bool (by first | rfl | assumption | simp [*]), hb1⟩

end Go.Proofs.YtgfnelpfoegdaaaDoor
