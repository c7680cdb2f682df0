/-
  Contracts of Remand, of the reference.
-/
import Derived.Test.YtgfnelpfoegdaaaFWa
import Derived.Deep.RegionLaw
namespace Go.Proofs.Ytgfnelpfoegdaaa
open Go.RowKit

theorem remandF_out {l : List Br} {b : Int} (h : ¬ (0 ≤ b ∧ b < l.length)) : remandF l b = ([], 3) := by
  unfold remandF
  by_cases hb0 : b < 0
  · rw [if_pos hb0]
  · rw [if_neg hb0, List.getElem?_eq_none (by omega)]

theorem remandF_in {l : List Br} {k : Nat} {x : Br} (h : l[k]? = some x) :
    remandF l k = (if x.opn = false then (([], 41) : List Br × Int) else if x.parent < 0 ∨ l.any (asked k) = true then ([], 11) else match l[x.parent.toNat]? with
        | none => ([], 11)
        | some p => if 65536 < sz p + x.own.length then ([], 2) else ((l.set x.parent.toNat { p with own := p.own ++ x.own }).set k { x with opn := false }, 0)) := by
  unfold remandF
  rw [if_neg (by omega), Int.toNat_natCast, h]
  rfl

/-- What stands behind the append of a Remand. -/
theorem remand_upd {W w2 : World} {B E EI p k g cap : Nat} {l : List Br} {us : List Value} {v2 : Value} {own' : List Int} (hE : EI ≠ E)
    (hO : OwnBrs W B E EI (.slice (some ⟨g, 0, none⟩) l.length cap) l us l.length) (hp : p < l.length) (hpu : p < us.length) (hk : k < l.length) (hkp : p ≠ k)
    (hv : w2.ownsRow B EI 1 v2 own'.length (ints own')) (hg : W.grownBy w2 us[p].ownBlock) :
    (∃ x, w2.cell? ⟨g, p * 5 + 3, none⟩ = some x) ∧ w2.frozen? ⟨g, p * 5 + 3, none⟩ = false ∧
    (∃ x, (w2.setCell ⟨g, p * 5 + 3, none⟩ v2).cell? ⟨g, k * 5 + 4, none⟩ = some x) ∧ (w2.setCell ⟨g, p * 5 + 3, none⟩ v2).frozen? ⟨g, k * 5 + 4, none⟩ = false ∧
    IsBrs ((w2.setCell ⟨g, p * 5 + 3, none⟩ v2).setCell ⟨g, k * 5 + 4, none⟩ (.bool false)) (.slice (some ⟨g, 0, none⟩) l.length cap) ((l.set p { l[p] with own := own' }).set k { l[k] with opn := false }) := by
  have hne : us[p].ownBlock ≠ some g := by
    rcases owns_apart (hO.own p hp hpu hp) hO.row hE with h | h
    · rw [h]; simp
    · simpa [Value.ownBlock] using h
  have hrow2 := hO.row.kept hg (by right; simp only [Value.ownBlock]; exact fun e => hne e.symm)
  have hU := OwnBrs.upd hE hO hp hpu hv hg
  have hkl : k < (l.set p { l[p] with own := own' }).length := by simpa using hk
  have hU2 : RowBrs (w2.setCell ⟨g, p * 5 + 3, none⟩ v2) B E (.slice (some ⟨g, 0, none⟩) (l.set p { l[p] with own := own' }).length cap) (l.set p { l[p] with own := own' }) (us.set p v2) := by
    rw [List.length_set]; exact hU
  have hS := hU2.setOpen hkl false
  have hlk : (l.set p { l[p] with own := own' })[k] = l[k] := List.getElem_set_ne hkp _
  rw [hlk, List.length_set] at hS
  refine ⟨⟨_, by rw [hrow2.cellAt _ (by omega), brCells_get l us hO.len p 3 hp (by omega)]; rfl⟩, hrow2.frozenAt _, ⟨_, by rw [hU2.row.cellAt _ (by omega), brCells_get _ _ hU2.len k 4 hkl (by omega)]; rfl⟩, hU2.row.frozenAt _, ⟨_, hS.reads⟩⟩

theorem wrap_small {n : Int} (h0 : 0 ≤ n) (h1 : n ≤ 1000000) : IntKind.i64.wrap n = n := by
  rw [IntKind.wrap_i64]; omega

theorem parent_in {l : List Br} {k : Nat} {x : Br} (hok : OkBr l k x) (hk : k < l.length) (h : ¬ x.parent < 0) : ∃ p : Nat, x.parent = p ∧ p < k ∧ p < l.length := by
  obtain ⟨p, hp⟩ := Int.eq_ofNat_of_zero_le (by omega : 0 ≤ x.parent)
  have := hok.p2
  exact ⟨p, hp, by omega, by omega⟩

set_option maxHeartbeats 2000000 in
set_option maxRecDepth 100000 in
theorem refRemand (l : List Br) (v : Value) (b : Int) (w : World) (hl : IsBrs w v l) (hg : Good l) :
    Calls Try.prog 23 #[v, .int .i64 b] w (Ret2 w (remandF l b)) := by
  have HL := Lib.hid hl
  obtain ⟨ad, cap0, hv, hl63, -, hc⟩ := hl.open
  subst hv
  unfold maxLen at hl63
  by_cases hin : 0 ≤ b ∧ b < l.length
  · obtain ⟨k, rfl⟩ := Int.eq_ofNat_of_zero_le hin.1
    have hk : k < l.length := by omega
    have hx := List.getElem?_eq_getElem hk
    have hok := hg.ok hx
    have hdh : decide ((0 : Int) ≤ (k : Int) ∧ (k : Int) < (l.length : Int)) = true := by simp; omega
    obtain ⟨bb, off, u, ha, hu, c0, -, -, c3, c4⟩ := hc k hk
    subst ha
    rw [remandF_in hx]
    have HC := Lib.hid hc
    have hbblt : bb < w.heap.size := World.block_lt_of_cell? _ _ c0
    cases ho : l[k].opn with
    | false =>
      rw [if_pos rfl]
      rw [ho] at c4
      clear hok hx hin hg ho hc hl hu
      go_enter Try.func23, Try.ntmps23
      go_wp2_with (first | (go_at_call 50; refine (refhas_any _ _ _ _ _).mono ?_; rintro e w' ⟨rfl, rfl⟩))
      go_ret2
      exact ⟨_, rfl, IsBrs.nil _ _ _, Below.refl _ _⟩
    | true =>
      rw [if_neg (by simp)]
      rw [ho] at c4
      by_cases hpn : l[k].parent < 0
      · rw [if_pos (.inl hpn)]
        clear hok hx hin hg ho hc hl hu
        go_enter Try.func23, Try.ntmps23
        go_wp2_with (first | (go_at_call 50; refine (refhas_any _ _ _ _ _).mono ?_; rintro e w' ⟨rfl, rfl⟩))
        go_loopw [7] (fun i wr => i = .int .i64 0 ∧ wr = w) (fun _ _ => 0)
        case atStart => exact ⟨rfl, rfl⟩
        case round =>
          obtain ⟨rfl, rfl⟩ := hrel
          have h0l : (0 : Int) < (l.length : Int) := by omega
          go_wp2
          go_ret2
          exact ⟨_, rfl, IsBrs.nil _ _ _, Below.refl _ _⟩
      · obtain ⟨p, hpar, hpk, hpl⟩ := parent_in hok hk hpn
        have hpx := List.getElem?_eq_getElem hpl
        have hpn0 : ¬ ((p : Int) < 0) := by omega
        have hRf : (if l[k].parent < 0 ∨ l.any (asked k) = true then (([], 11) : List Br × Int) else match l[l[k].parent.toNat]? with
          | none => ([], 11)
          | some p => if 65536 < sz p + l[k].own.length then ([], 2) else ((l.set l[k].parent.toNat { p with own := p.own ++ l[k].own }).set k { l[k] with opn := false }, 0)) =
          (if l.any (asked k) = true then (([], 11) : List Br × Int) else if 65536 < sz l[p] + l[k].own.length then ([], 2) else ((l.set p { l[p] with own := l[p].own ++ l[k].own }).set k { l[k] with opn := false }, 0)) := by
          rw [hpar]
          simp only [Int.toNat_natCast, hpx, hpn0, false_or]
        rw [hRf]
        clear hRf
        obtain ⟨R, hR⟩ : ∃ R, (if l.any (asked k) = true then (([], 11) : List Br × Int) else if 65536 < sz l[p] + l[k].own.length then ([], 2) else ((l.set p { l[p] with own := l[p].own ++ l[k].own }).set k { l[k] with opn := false }, 0)) = R := ⟨_, rfl⟩
        rw [hR]
        have HR := Lib.hid hR
        clear hR
        rw [hpar] at c0
        have hel : ((events l p).length : Int) = sz l[p] := events_len p _ (hg.str _) hpx
        have hev := fun w => refEventsZ l (.slice (some ⟨bb, off, none⟩) l.length cap0) p w
        simp only [eventsZ_nat] at hev
        have HEV := Lib.hid hev
        have HG := Lib.hid hg
        have HOW := Lib.hid hg.owns
        have HOP := Lib.hid ho
        have hszp : sz l[p] ≤ 65536 := (hg.ok hpx).s
        have hszq : 0 ≤ sz l[p] := by have := (hg.ok hpx).a1; unfold sz; omega
        have hokl := hok.own
        have hwr := wrap_small (n := sz l[p] + (l[k].own.length : Int)) (by omega) (by omega)
        have hopl := (hg.ok hpx).own
        have HL6 : Hid (l.length ≤ 1000000) := (by have := hg.1; show _ ≤ _; omega)
        obtain ⟨ua, uc, rfl, -, -, -⟩ := hu.open
        have HU := Lib.hid hu
        have HX := Lib.hid hx
        have HEL := Lib.hid hel
        clear hok hx hin hg ho hc hl hu hev hpar hpx hpn hel
        go_enter Try.func23, Try.ntmps23
        go_wp2_with (first | (go_at_call 50; refine (refhas_any _ _ _ _ _).mono ?_; rintro e w' ⟨rfl, rfl⟩))
        go_loopw [7] (fun i wr => ∃ j : Nat, i = .int .i64 j ∧ j ≤ l.length ∧ wr = w ∧ Hid ((l.take j).any (asked k) = false)) (fun i _ => l.length - (intOf i).toNat)
        case atStart => exact ⟨0, rfl, Nat.zero_le _, rfl, rfl⟩
        case round =>
          obtain ⟨j, rfl, hj, rfl, HN⟩ := hrel
          by_cases hjl : j < l.length
          · obtain ⟨bb2, off2, u2, he2, -, e0, -, -, -, e4⟩ := HC.out j hjl
            cases he2
            have htk : Hid ((l.take (j + 1)).any (asked k) = asked k l[j]) := by
              show _ = _
              rw [List.take_succ_eq_append_getElem hjl, List.any_append, HN.out]; simp
            have hany : Hid (asked k l[j] = true → l.any (asked k) = true) := fun h => List.any_eq_true.2 ⟨_, List.getElem_mem hjl, h⟩
            by_cases hq : l[j].parent = k
            · rw [hq] at e0
              cases ho : l[j].opn with
              | false =>
                rw [ho] at e4
                have hjf : asked k l[j] = false := by unfold asked; rw [ho]; rfl
                rw [hjf] at htk
                clear hjf ho hq
                go_wp2
                go_roundw
                case rel => exact ⟨j + 1, by go_num, by omega, trivial, htk⟩
                case measure => simp [intOf]; omega
              | true =>
                rw [ho] at e4
                have hjt : asked k l[j] = true := by unfold asked; rw [ho, hq]; simp
                have hA := hany.out hjt
                have HA := Lib.hid hA
                clear hjt hA ho hq
                go_wp2
                go_ret2
                rw [← HR.out, if_pos HA.out]
                exact ⟨_, rfl, IsBrs.nil _ _ _, Below.refl _ _⟩
            · have hjf : asked k l[j] = false := by
                unfold asked
                rw [show (l[j].parent == (k : Int)) = false by simpa using hq, Bool.and_false]
              rw [hjf] at htk
              have hqb : (l[j].parent == (k : Int)) = false := by simpa using hq
              clear hjf hq
              go_wp2
              go_roundw
              case rel => exact ⟨j + 1, by go_num, by omega, trivial, htk⟩
              case measure => simp [intOf]; omega
          · obtain rfl : j = l.length := by omega
            have hA : l.any (asked k) = false := by
              have h9 := HN.out
              rwa [List.take_length] at h9
            have HA := Lib.hid hA
            clear hA hjl
            have HWD : Hid (IsBrs wr.drew (.slice (some ⟨bb, off, none⟩) l.length cap0) l) := HL.out.below ((Below.refl _ _).drew)
            have hel := HEL.out
            by_cases hfull : 65536 < sz l[p] + l[k].own.length
            · go_wp2
              go_region_held3 (fun w' => w'.cell? ⟨bb, off + k * 5 + 3, none⟩ = some (.slice ua l[k].own.length uc)) (first | exact c3' | go_keep)
                (first
                  | (go_at_call 29; refine (HEV.out _ HWD.out HG.out).mono ?_; rintro e w2 ⟨v2, rfl, hv2, hb2⟩; obtain ⟨a2, c2, rfl, -, -, -⟩ := hv2.open; have HB2 := Lib.hid (Below.to ((Below.refl _ wr).drew) hb2 (Nat.le_refl _)); have c3' := (HB2.out.cell hbblt).trans c3; clear hb2 hv2))
              go_wp2
              go_ret2
              rw [← HR.out, HA.out, if_neg Bool.false_ne_true, if_pos hfull]
              exact ⟨_, rfl, IsBrs.nil _ _ _, HB2.out⟩
            · go_wp2
              go_region_held3 (fun w' => w'.cell? ⟨bb, off + k * 5 + 3, none⟩ = some (.slice ua l[k].own.length uc)) (first | exact c3' | go_keep)
                (first
                  | (go_at_call 29; refine (HEV.out _ HWD.out HG.out).mono ?_; rintro e w2 ⟨v2, rfl, hv2, hb2⟩; obtain ⟨a2, c2, rfl, -, -, -⟩ := hv2.open; have HB2 := Lib.hid (Below.to ((Below.refl _ wr).drew) hb2 (Nat.le_refl _)); have c3' := (HB2.out.cell hbblt).trans c3; clear hb2 hv2))
              go_wp2_with fail
              refine (refClone l _ _ (HL.out.below HB2.out) HL6.out HOW.out).mono ?_
              rintro e w1 ⟨v1, us, rfl, hO1, hb1⟩
              have hB1 : Below wr.heap.size wr w1 := Below.to HB2.out hb1 HB2.out.size
              have hO : OwnBrs w1 wr.heap.size 26 3 v1 l us l.length := hO1.mono HB2.out.size
              obtain ⟨g, cap, rfl, hgB, hgs, hcap⟩ := owns_some hO.row (by omega)
              have hpu : p < us.length := by rw [hO.len]; exact hpl
              obtain ⟨up, hup⟩ : ∃ up, us[p] = up := ⟨_, rfl⟩
              have hOD : OwnBrs w1.drew wr.heap.size 26 3 (.slice (some ⟨g, 0, none⟩) l.length cap) l us l.length := hO.below ((Below.refl _ _).drew)
              have d3 : w1.drew.cell? ⟨g, p * 5 + 3, none⟩ = some up := by
                rw [hOD.row.cellAt _ (by omega), brCells_get l us hO.len p 3 hpl (by omega), ← hup]; rfl
              have howp := hOD.own p hpl hpu hpl
              rw [hup] at howp
              have HOWP := Lib.hid howp
              have hB1D : Below wr.heap.size wr w1.drew := hB1.drew
              have hsrc : Hid (IsInts w1.drew (.slice ua l[k].own.length uc) l[k].own) := HU.out.below hB1D
              have c3d : w1.drew.cell? ⟨bb, off + k * 5 + 3, none⟩ = some (.slice ua l[k].own.length uc) := (hB1D.cell hbblt).trans c3
              have hs1 : wr.heap.size ≤ w1.drew.heap.size := hB1D.size
              have HS1 := Lib.hid hs1
              have hb63 : Hid (l[p].own.length + l[k].own.length ≤ maxLen) := (by show _ ≤ _; unfold maxLen; omega)
              have hb64 : Hid ((l[p].own.length + l[k].own.length) * 8 ≤ 140737488355328) := (by show _ ≤ _; omega)
              have HUPD : Hid (∀ v2 w2, w2.ownsRow wr.heap.size 3 1 v2 (l[p].own.length + l[k].own.length) (ints l[p].own ++ ints l[k].own) → w1.drew.grownBy w2 up.ownBlock →
                  ((∃ x, w2.cell? ⟨g, p * 5 + 3, none⟩ = some x) ∧ w2.frozen? ⟨g, p * 5 + 3, none⟩ = false ∧
                  (∃ x, (w2.setCell ⟨g, p * 5 + 3, none⟩ v2).cell? ⟨g, k * 5 + 4, none⟩ = some x) ∧ (w2.setCell ⟨g, p * 5 + 3, none⟩ v2).frozen? ⟨g, k * 5 + 4, none⟩ = false ∧
                  IsBrs ((w2.setCell ⟨g, p * 5 + 3, none⟩ v2).setCell ⟨g, k * 5 + 4, none⟩ (.bool false)) (.slice (some ⟨g, 0, none⟩) l.length cap) ((l.set p { l[p] with own := l[p].own ++ l[k].own }).set k { l[k] with opn := false })) ∧
                  Below wr.heap.size wr ((w2.setCell ⟨g, p * 5 + 3, none⟩ v2).setCell ⟨g, k * 5 + 4, none⟩ (.bool false))) := by
                intro v2 w2 h1 h2
                refine ⟨remand_upd (own' := l[p].own ++ l[k].own) (by decide) hOD hpl hpu hk (by omega) (by simpa [ints] using h1) (by rw [hup]; exact h2), ?_⟩
                exact ((below_append hB1D howp h2 hs1).setCell hgB _).setCell hgB _
              clear hO hO1 hb1 hB1 howp hup hOD hB1D hs1 HB2 c3 c3'
              go_wp2_with fail
              go_region_law (refine step_append_rd (by rfl) _ _ 23 (by rfl) wr.heap.size 3 _ 1 8 Try.underlying23 infoInt rfl (by decide) up l[p].own.length (ints l[p].own) (by rfl) HOWP.out _ l[k].own.length (ints l[k].own) (by rfl) hsrc.out (ints_one _) hb63.out hb64.out HS1.out ?_
                             intro v2 w2 hv2 hg2
                             obtain ⟨va, vc, rfl, -, -⟩ := owns_slice hv2
                             have HF := HUPD.out _ w2 hv2 hg2
                             clear hv2 hg2
                             obtain ⟨⟨⟨x5, c5⟩, f5, ⟨x6, c6⟩, f6, hr6⟩, hb6⟩ := HF
                             have HR6 := Lib.hid hr6
                             have HB6 := Lib.hid hb6
                             clear hr6 hb6)
              all_goals
                go_wp2
                go_ret2
                rw [← HR.out, HA.out, if_neg Bool.false_ne_true, if_neg (Int.not_lt.2 hfull)]
                exact ⟨_, rfl, HR6.out, HB6.out⟩
  · rw [remandF_out hin]
    have hd : decide (0 ≤ b ∧ b < (l.length : Int)) = false := by simpa using hin
    clear hin hg hc hl
    go_enter Try.func23, Try.ntmps23
    go_wp2_with (first | (go_at_call 50; refine (refhas_any _ _ _ _ _).mono ?_; rintro e w' ⟨rfl, rfl⟩))
    go_ret2
    exact ⟨_, rfl, IsBrs.nil _ _ _, Below.refl _ _⟩

end Go.Proofs.Ytgfnelpfoegdaaa
