/-
  Contracts of Add and Remand, of the program and of the reference.
-/
import Derived.Test.YtgfnelpfoegdaaaFW8
namespace Go.Proofs.Ytgfnelpfoegdaaa
open Go.RowKit

theorem addF_out {l : List Br} {b ev : Int} (h : ¬ (0 ≤ b ∧ b < l.length)) : addF l b ev = ([], 3) := by
  unfold addF
  by_cases hb0 : b < 0
  · rw [if_pos hb0]
  · rw [if_neg hb0, List.getElem?_eq_none (by omega)]

theorem addF_in {l : List Br} {k : Nat} {x : Br} {ev : Int} (h : l[k]? = some x) :
    addF l k ev = (if x.opn = false then ([], 41) else if 65536 ≤ sz x then ([], 2) else (l.set k { x with own := x.own ++ [ev] }, 0)) := by
  unfold addF
  rw [if_neg (by omega), Int.toNat_natCast, h]

set_option maxHeartbeats 1000000 in
set_option maxRecDepth 100000 in
theorem forkAdd (l : List Br) (v : Value) (b ev : Int) (w : World) (hl : IsBrs w v l) (hg : Good l) (hb : b ≤ 9223372036854775807) :
    Calls Try.prog 20 #[v, .int .i64 b, .int .i64 ev] w (Ret2 w (addF l b ev)) := by
  have HL := Lib.hid hl; clear hl
  have hob := open_any l v b w HL.out hb
  by_cases hin : 0 ≤ b ∧ b < l.length
  · obtain ⟨k, rfl⟩ := Int.eq_ofNat_of_zero_le hin.1
    have hk : k < l.length := by omega
    have hx := List.getElem?_eq_getElem hk
    have hok := hg.ok hx
    rw [openF_in hx] at hob
    rw [addF_in hx]
    cases ho : l[k].opn with
    | false =>
      rw [if_pos rfl]
      rw [ho] at hob
      simp only [Bool.false_eq_true, if_false] at hob
      have HOB := Lib.hid hob
      clear hob hok hx hin hg ho
      go_enter Try.func20, Try.ntmps20
      go_wp2_with (first | (go_at_call 48; refine HOB.out.mono ?_; rintro e w' ⟨rfl, rfl⟩))
      go_ret2
      exact ⟨_, rfl, IsBrs.nil _ _ _, Below.refl _ _⟩
    | true =>
      rw [if_neg (by simp)]
      rw [ho] at hob
      simp only [if_true] at hob
      have HOB := Lib.hid hob
      have hsz1 := hok.a1
      have hsb : Hid (sz l[k] ≤ 9000000000000000000) := (by have := hok.s; show sz l[k] ≤ _; omega)
      have HX := Lib.hid hx
      by_cases hfull : 65536 ≤ sz l[k]
      · rw [if_pos hfull]
        clear hob hok hx hin hg ho
        go_enter Try.func20, Try.ntmps20
        go_wp2_with (first | (go_at_call 48; refine HOB.out.mono ?_; rintro e w' ⟨rfl, rfl⟩) | (go_at_call 49; refine (size_any l v k l[k] _ HL.out HX.out hsz1 hsb.out).mono ?_; rintro e w2 ⟨rfl, n2, rfl⟩))
        go_ret2
        exact ⟨_, rfl, IsBrs.nil _ _ _, below_drewN (Below.refl _ _) _⟩
      · rw [if_neg hfull]
        have HOW := Lib.hid hg.owns
        have HOP := Lib.hid ho
        have hol := hok.own
        have HL6 : Hid (l.length ≤ 1000000) := (by have := hg.1; show _ ≤ _; omega)
        clear hob hok hx hin hg ho
        go_enter Try.func20, Try.ntmps20
        go_wp2_with (first | (go_at_call 48; refine HOB.out.mono ?_; rintro e w' ⟨rfl, rfl⟩) | (go_at_call 49; refine (size_any l v k l[k] _ HL.out HX.out hsz1 hsb.out).mono ?_; rintro e w2 ⟨rfl, n2, rfl⟩))
        refine (forkClone l v _ (HL.out.below (below_drewN (Below.refl _ _) _)) HL6.out HOW.out).mono ?_
        rintro e w1 ⟨v1, us, rfl, hO1, hb1⟩
        have hB1 : Below w.heap.size w w1 := Below.trans (below_drewN (Below.refl _ _) n2) hb1
        have hO : OwnBrs w1 w.heap.size 26 3 v1 l us l.length := hO1
        obtain ⟨g, cap, rfl, hgB, hgs, hcap⟩ := owns_some hO.row (by omega)
        have hku : k < us.length := by rw [hO.len]; exact hk
        obtain ⟨uk, huk⟩ : ∃ uk, us[k] = uk := ⟨_, rfl⟩
        have d3 : w1.cell? ⟨g, k * 5 + 3, none⟩ = some uk := by
          rw [hO.row.cellAt _ (by omega), brCells_get l us hO.len k 3 hk (by omega), ← huk]; rfl
        have howk := hO.own k hk hku hk
        rw [huk] at howk
        have HOWK := Lib.hid howk
        have hsrc : Hid (Rd (w1.alloc (.cells #[.int .i64 ev] 3)) (.slice (some ⟨w1.heap.size, 0, none⟩) 1 1) 1 1 [.int .i64 ev]) := Rd.lit w1 #[.int .i64 ev] 3 1 1 rfl (by unfold maxLen; omega)
        have HOO := Lib.hid hO
        have HBB := Lib.hid hB1
        have HUK := Lib.hid huk
        have hs1 := hB1.size
        clear hO hO1 hb1 hB1 howk huk
        go_wp2_with (at_builtin; go_must (refine wpList_append_rd rfl _ _ 23 rfl w.heap.size 3 _ 1 8 Try.underlying23 infoInt rfl (by decide) uk l[k].own.length (ints l[k].own) rfl (HOWK.out.alloc _) _ 1 [.int .i64 ev] rfl hsrc.out (by intro c hc; simp at hc; subst hc; rfl) ?b1 ?b2 ?b3 ?_))
        case b1 => unfold maxLen; omega
        case b2 => omega
        case b3 => simp; omega
        intro v2 w2 hv2 hg2
        obtain ⟨va, vc, rfl, -, -⟩ := owns_slice hv2
        have hOA := HOO.out.below ((Below.refl w1.heap.size w1).alloc (Nat.le_refl _) (.cells #[.int .i64 ev] 3))
        have hB2 : Below w.heap.size w w2 := below_append (HBB.out.alloc HBB.out.size (.cells #[.int .i64 ev] 3)) (HOWK.out.alloc (.cells #[.int .i64 ev] 3)) hg2 (by simp; omega)
        have hne : uk.ownBlock ≠ some g := by
          rcases owns_apart HOWK.out HOO.out.row (by decide) with h | h
          · rw [h]; simp
          · simpa [Value.ownBlock] using h
        have hrow2 := hOA.row.kept hg2 (by right; simp only [Value.ownBlock]; exact fun e => hne e.symm)
        obtain ⟨c4, hc4⟩ : ∃ x, w2.cell? ⟨g, k * 5 + 3, none⟩ = some x := ⟨_, by rw [hrow2.cellAt _ (by omega), brCells_get l us HOO.out.len k 3 hk (by omega)]; rfl⟩
        have hf4 : w2.frozen? ⟨g, k * 5 + 3, none⟩ = false := hrow2.frozenAt _
        have hU := OwnBrs.upd (own' := l[k].own ++ [ev]) (v' := .slice va (l[k].own.length + 1) vc) (by decide) hOA hk hku (by simpa [ints] using hv2) (by rw [HUK.out]; exact hg2)
        have HU := Lib.hid hU.reads
        have HB3 := Lib.hid (hB2.setCell (p := ⟨g, k * 5 + 3, none⟩) hgB (.slice va (l[k].own.length + 1) vc))
        clear hU hrow2 hB2 hOA hv2 hg2 hne
        go_wp2
        go_ret2
        have h9 := HU.out
        simp only [HOP.out] at h9
        exact ⟨_, rfl, ⟨_, h9⟩, HB3.out⟩
  · rw [openF_out hin] at hob
    rw [addF_out hin]
    have HOB := Lib.hid hob
    clear hob hin hg
    go_enter Try.func20, Try.ntmps20
    go_wp2_with (first | (go_at_call 48; refine HOB.out.mono ?_; rintro e w' ⟨rfl, rfl⟩))
    go_ret2
    exact ⟨_, rfl, IsBrs.nil _ _ _, Below.refl _ _⟩

set_option maxHeartbeats 1000000 in
set_option maxRecDepth 100000 in
theorem refAdd (l : List Br) (v : Value) (b ev : Int) (w : World) (hl : IsBrs w v l) (hg : Good l) :
    Calls Try.prog 21 #[v, .int .i64 b, .int .i64 ev] w (Ret2 w (addF l b ev)) := by
  have HL := Lib.hid hl
  obtain ⟨ad, cap0, hv, hl63, -, hc⟩ := hl.open
  subst hv
  unfold maxLen at hl63
  by_cases hin : 0 ≤ b ∧ b < l.length
  · obtain ⟨k, rfl⟩ := Int.eq_ofNat_of_zero_le hin.1
    have hk : k < l.length := by omega
    have hx := List.getElem?_eq_getElem hk
    have hok := hg.ok hx
    have hdh : decide ((0 : Int) ≤ (k : Int) ∧ (k : Int) < (l.length : Int)) = true := by simp; omega
    obtain ⟨bb, off, u, ha, hu, -, -, -, -, c4⟩ := hc k hk
    subst ha
    rw [addF_in hx]
    cases ho : l[k].opn with
    | false =>
      rw [if_pos rfl]
      rw [ho] at c4
      clear hok hx hin hg ho hc hl hu
      go_enter Try.func21, Try.ntmps21
      go_wp2_with (first | (go_at_call 50; refine (refhas_any _ _ _ _ _).mono ?_; rintro e w' ⟨rfl, rfl⟩))
      go_ret2
      exact ⟨_, rfl, IsBrs.nil _ _ _, Below.refl _ _⟩
    | true =>
      rw [if_neg (by simp)]
      rw [ho] at c4
      have hel : ((events l k).length : Int) = sz l[k] := events_len k _ (hg.str _) hx
      have hev := refEventsZ l _ k w HL.out hg
      rw [eventsZ_nat] at hev
      have HEV := Lib.hid hev
      by_cases hfull : 65536 ≤ sz l[k]
      · rw [if_pos hfull]
        clear hok hx hin hg ho hc hl hu hev
        go_enter Try.func21, Try.ntmps21
        go_wp2_with (first | (go_at_call 50; refine (refhas_any _ _ _ _ _).mono ?_; rintro e w' ⟨rfl, rfl⟩) | (go_at_call 29; refine HEV.out.mono ?_; rintro e w2 ⟨v2, rfl, hv2, hb2⟩; obtain ⟨a2, c2, rfl, -, -, -⟩ := hv2.open; have HB2 := Lib.hid hb2; clear hb2 hv2))
        go_ret2
        exact ⟨_, rfl, IsBrs.nil _ _ _, HB2.out⟩
      · rw [if_neg hfull]
        have HOW := Lib.hid hg.owns
        have HOP := Lib.hid ho
        have hol := hok.own
        have HL6 : Hid (l.length ≤ 1000000) := (by have := hg.1; show _ ≤ _; omega)
        clear hok hx hin hg ho hc hl hu hev
        go_enter Try.func21, Try.ntmps21
        go_wp2_with (first | (go_at_call 50; refine (refhas_any _ _ _ _ _).mono ?_; rintro e w' ⟨rfl, rfl⟩) | (go_at_call 29; refine HEV.out.mono ?_; rintro e w2 ⟨v2, rfl, hv2, hb2⟩; obtain ⟨a2, c2, rfl, -, -, -⟩ := hv2.open; have HB2 := Lib.hid hb2; clear hb2 hv2))
        refine (refClone l _ _ (HL.out.below HB2.out) HL6.out HOW.out).mono ?_
        rintro e w1 ⟨v1, us, rfl, hO1, hb1⟩
        have hB1 : Below w.heap.size w w1 := Below.to HB2.out hb1 HB2.out.size
        have hO : OwnBrs w1 w.heap.size 26 3 v1 l us l.length := hO1.mono HB2.out.size
        obtain ⟨g, cap, rfl, hgB, hgs, hcap⟩ := owns_some hO.row (by omega)
        have hku : k < us.length := by rw [hO.len]; exact hk
        obtain ⟨uk, huk⟩ : ∃ uk, us[k] = uk := ⟨_, rfl⟩
        have d3 : w1.cell? ⟨g, k * 5 + 3, none⟩ = some uk := by
          rw [hO.row.cellAt _ (by omega), brCells_get l us hO.len k 3 hk (by omega), ← huk]; rfl
        have howk := hO.own k hk hku hk
        rw [huk] at howk
        have HOWK := Lib.hid howk
        have hsrc : Hid (Rd (w1.alloc (.cells #[.int .i64 ev] 3)) (.slice (some ⟨w1.heap.size, 0, none⟩) 1 1) 1 1 [.int .i64 ev]) := Rd.lit w1 #[.int .i64 ev] 3 1 1 rfl (by unfold maxLen; omega)
        have HOO := Lib.hid hO
        have HBB := Lib.hid hB1
        have HUK := Lib.hid huk
        have hs1 := hB1.size
        clear hO hO1 hb1 hB1 howk huk HB2
        go_wp2_with (at_builtin; go_must (refine wpList_append_rd rfl _ _ 23 rfl w.heap.size 3 _ 1 8 Try.underlying23 infoInt rfl (by decide) uk l[k].own.length (ints l[k].own) rfl (HOWK.out.alloc _) _ 1 [.int .i64 ev] rfl hsrc.out (by intro c hc; simp at hc; subst hc; rfl) ?b1 ?b2 ?b3 ?_))
        case b1 => unfold maxLen; omega
        case b2 => omega
        case b3 => simp; omega
        intro v2 w2 hv2 hg2
        obtain ⟨va, vc, rfl, -, -⟩ := owns_slice hv2
        have hOA := HOO.out.below ((Below.refl w1.heap.size w1).alloc (Nat.le_refl _) (.cells #[.int .i64 ev] 3))
        have hB2 : Below w.heap.size w w2 := below_append (HBB.out.alloc HBB.out.size (.cells #[.int .i64 ev] 3)) (HOWK.out.alloc (.cells #[.int .i64 ev] 3)) hg2 (by simp; omega)
        have hne : uk.ownBlock ≠ some g := by
          rcases owns_apart HOWK.out HOO.out.row (by decide) with h | h
          · rw [h]; simp
          · simpa [Value.ownBlock] using h
        have hrow2 := hOA.row.kept hg2 (by right; simp only [Value.ownBlock]; exact fun e => hne e.symm)
        obtain ⟨c4, hc4⟩ : ∃ x, w2.cell? ⟨g, k * 5 + 3, none⟩ = some x := ⟨_, by rw [hrow2.cellAt _ (by omega), brCells_get l us HOO.out.len k 3 hk (by omega)]; rfl⟩
        have hf4 : w2.frozen? ⟨g, k * 5 + 3, none⟩ = false := hrow2.frozenAt _
        have hU := OwnBrs.upd (own' := l[k].own ++ [ev]) (v' := .slice va (l[k].own.length + 1) vc) (by decide) hOA hk hku (by simpa [ints] using hv2) (by rw [HUK.out]; exact hg2)
        have HU := Lib.hid hU.reads
        have HB3 := Lib.hid (hB2.setCell (p := ⟨g, k * 5 + 3, none⟩) hgB (.slice va (l[k].own.length + 1) vc))
        clear hU hrow2 hB2 hOA hv2 hg2 hne
        go_wp2
        go_ret2
        have h9 := HU.out
        simp only [HOP.out] at h9
        exact ⟨_, rfl, ⟨_, h9⟩, HB3.out⟩
  · rw [addF_out hin]
    have hd : decide (0 ≤ b ∧ b < (l.length : Int)) = false := by simpa using hin
    clear hin hg hc hl
    go_enter Try.func21, Try.ntmps21
    go_wp2_with (first | (go_at_call 50; refine (refhas_any _ _ _ _ _).mono ?_; rintro e w' ⟨rfl, rfl⟩))
    go_ret2
    exact ⟨_, rfl, IsBrs.nil _ _ _, Below.refl _ _⟩

end Go.Proofs.Ytgfnelpfoegdaaa
