/-
  Contracts of Remand, of the program.
-/
import Derived.Test.YtgfnelpfoegdaaaFWb
namespace Go.Proofs.Ytgfnelpfoegdaaa
open Go.RowKit

theorem remandF_mid {l : List Br} {k p : Nat} {x y : Br} (hx : l[k]? = some x) (ho : x.opn = true) (hpar : x.parent = p) (hy : l[p]? = some y) :
    remandF l k = (if l.any (asked k) = true then (([], 11) : List Br × Int) else if 65536 < sz y + x.own.length then ([], 2) else ((l.set p { y with own := y.own ++ x.own }).set k { x with opn := false }, 0)) := by
  have hpn0 : ¬ ((p : Int) < 0) := by omega
  rw [remandF_in hx, if_neg (by simp [ho]), hpar]
  simp only [Int.toNat_natCast, hy, hpn0, false_or]

theorem remandF_closed {l : List Br} {k : Nat} {x : Br} (hx : l[k]? = some x) (ho : x.opn = false) : remandF l k = ([], 41) := by
  rw [remandF_in hx, if_pos ho]

theorem remandF_root {l : List Br} {k : Nat} {x : Br} (hx : l[k]? = some x) (ho : x.opn = true) (hp : x.parent < 0) : remandF l k = ([], 11) := by
  rw [remandF_in hx, if_neg (by simp [ho]), if_pos (.inl hp)]

set_option maxHeartbeats 2000000 in
set_option maxRecDepth 100000 in
theorem forkRemand (l : List Br) (v : Value) (b : Int) (w : World) (hl : IsBrs w v l) (hg : Good l) (hb : b ≤ 9223372036854775807) :
    Calls Try.prog 22 #[v, .int .i64 b] w (Ret2 w (remandF l b)) := by
  obtain ⟨W0, hW0⟩ : ∃ W0, W0 = w.alloc (.cells #[.int .i64 b] 3) := ⟨_, rfl⟩
  have hbel0 : Below w.heap.size w W0 := by rw [hW0]; exact (Below.refl _ _).alloc (Nat.le_refl _) _
  have hsz0 : w.heap.size < W0.heap.size := by rw [hW0]; simp
  have hbox0 : W0.cell? ⟨w.heap.size, 0, none⟩ = some (.int .i64 b) := by rw [hW0]; exact cells_alloc w #[.int .i64 b] 3 0
  have hl0 := hl.below hbel0
  have HL := Lib.hid hl0
  have hob := open_any l v b W0 hl0 hb
  have HBEL0 := Lib.hid hbel0
  clear hbel0
  have HW0 := Lib.hid hW0
  clear hW0
  obtain ⟨ad, cap0, hv, hl63, -, hc⟩ := hl0.open
  subst hv
  unfold maxLen at hl63
  by_cases hin : 0 ≤ b ∧ b < l.length
  · obtain ⟨k, rfl⟩ := Int.eq_ofNat_of_zero_le hin.1
    have hk : k < l.length := by omega
    have hx := List.getElem?_eq_getElem hk
    have hok := hg.ok hx
    rw [openF_in hx] at hob
    obtain ⟨bb, off, u, ha, hu, c0, -, -, c3, -⟩ := hc k hk
    subst ha
    have hbblt : bb < W0.heap.size := World.block_lt_of_cell? _ _ c0
    cases ho : l[k].opn with
    | false =>
      rw [remandF_closed hx ho]
      rw [ho] at hob
      simp only [Bool.false_eq_true, if_false] at hob
      have HOB := Lib.hid hob
      clear hok hx hin hg ho hc hl hu hob hl0
      go_enter Try.func22, Try.ntmps22
      go_wp2_with fail
      rw [← HW0.out]
      refine HOB.out.mono ?_
      rintro e w' ⟨rfl, rfl⟩
      go_wp2
      go_ret2
      exact ⟨_, rfl, IsBrs.nil _ _ _, HBEL0.out⟩
    | true =>
      rw [ho] at hob
      simp only [if_true] at hob
      have HOB := Lib.hid hob
      by_cases hpn : l[k].parent < 0
      · rw [remandF_root hx ho hpn]
        clear hok hx hin hg ho hc hl hu hob hl0
        go_enter Try.func22, Try.ntmps22
        go_wp2_with fail
        rw [← HW0.out]
        refine HOB.out.mono ?_
        rintro e w' ⟨rfl, rfl⟩
        go_wp2
        go_ret2
        exact ⟨_, rfl, IsBrs.nil _ _ _, HBEL0.out⟩
      · obtain ⟨p, hpar, hpk, hpl⟩ := parent_in hok hk hpn
        have hpx := List.getElem?_eq_getElem hpl
        have hpn0 : ¬ ((p : Int) < 0) := by omega
        rw [remandF_mid hx ho hpar hpx]
        obtain ⟨R, hR⟩ : ∃ R, (if l.any (asked k) = true then (([], 11) : List Br × Int) else if 65536 < sz l[p] + l[k].own.length then ([], 2) else ((l.set p { l[p] with own := l[p].own ++ l[k].own }).set k { l[k] with opn := false }, 0)) = R := ⟨_, rfl⟩
        rw [hR]
        have HR := Lib.hid hR
        clear hR
        rw [hpar] at c0
        have hszp : sz l[p] ≤ 65536 := (hg.ok hpx).s
        have hszq : 0 ≤ sz l[p] := by have := (hg.ok hpx).a1; unfold sz; omega
        have hatp := Lib.hid (hg.ok hpx).a1
        have hszh : Hid (sz l[p] ≤ 9000000000000000000) := (by show _ ≤ _; omega)
        have hokl := hok.own
        have hopl := (hg.ok hpx).own
        have hwr := wrap_small (n := sz l[p] + (l[k].own.length : Int)) (by omega) (by omega)
        have HOW := Lib.hid hg.owns
        have HL6 : Hid (l.length ≤ 1000000) := (by have := hg.1; show _ ≤ _; omega)
        obtain ⟨ua, uc, rfl, -, -, -⟩ := hu.open
        have HU := Lib.hid hu
        have HPX := Lib.hid hpx
        have HCF := Lib.hid (containsFunc l _ k w.heap.size W0 HL.out hbox0 hsz0)
        clear hok hx hin hg ho hc hl hu hob hl0 hpar hpx hpn
        go_enter Try.func22, Try.ntmps22
        go_wp2_with fail
        rw [← HW0.out]
        refine HOB.out.mono ?_
        rintro e w' ⟨rfl, rfl⟩
        cases hA : l.any (asked k) with
        | true =>
          rw [hA] at HCF
          have HA := Lib.hid hA
          clear hA
          go_wp2_with (go_at_call 52; refine HCF.out.mono ?_; rintro e w1 ⟨rfl, hb1⟩)
          go_ret2
          rw [← HR.out, if_pos HA.out]
          exact ⟨_, rfl, IsBrs.nil _ _ _, Below.to HBEL0.out hb1 (Nat.le_of_lt hsz0)⟩
        | false =>
          rw [hA] at HCF
          have HA := Lib.hid hA
          clear hA
          go_wp2_with fail
          refine HCF.out.mono ?_
          rintro e w1 ⟨rfl, hb1⟩
          have HL1 := Lib.hid (HL.out.below hb1)
          have HU1 := Lib.hid (HU.out.below hb1)
          have d0 := (hb1.cell hbblt).trans c0
          have d3 := (hb1.cell hbblt).trans c3
          have dB := (hb1.cell hsz0).trans hbox0
          have hB1 : Below w.heap.size w w1 := Below.to HBEL0.out hb1 (Nat.le_of_lt hsz0)
          have HB1 := Lib.hid hB1
          have hbb1 : bb < w1.heap.size := World.block_lt_of_cell? _ _ d0
          have hBB1 : w.heap.size < w1.heap.size := World.block_lt_of_cell? _ _ dB
          clear hb1 hB1 c0 c3 hbox0 hbblt HL HU HCF HOB
          have HWD : Hid (IsBrs w1.drew (.slice (some ⟨bb, off, none⟩) l.length cap0) l) := HL1.out.below ((Below.refl _ _).drew)
          by_cases hfull : 65536 < sz l[p] + l[k].own.length
          · go_wp2_with fail
            go_region_held3 (fun w' => w'.cell? ⟨bb, off + k * 5 + 3, none⟩ = some (.slice ua l[k].own.length uc) ∧ w'.cell? ⟨w.heap.size, 0, none⟩ = some (.int .i64 k)) (first | go_keep)
              (first
                | (go_at_call 49; refine (size_any l _ p l[p] _ HWD.out HPX.out hatp.out hszh.out).mono ?_; rintro e w2 ⟨rfl, n2, rfl⟩))
            go_wp2
            go_ret2
            rw [← HR.out, HA.out, if_neg Bool.false_ne_true, if_pos hfull]
            exact ⟨_, rfl, IsBrs.nil _ _ _, below_drewN HB1.out _⟩
          · go_wp2_with fail
            go_region_held3 (fun w' => w'.cell? ⟨bb, off + k * 5 + 3, none⟩ = some (.slice ua l[k].own.length uc) ∧ w'.cell? ⟨w.heap.size, 0, none⟩ = some (.int .i64 k)) (first | go_keep)
              (first
                | (go_at_call 49; refine (size_any l _ p l[p] _ HWD.out HPX.out hatp.out hszh.out).mono ?_; rintro e w2 ⟨rfl, n2, rfl⟩))
            go_wp2_with fail
            refine (forkClone l _ _ (HL1.out.below (below_drewN (Below.refl _ _) _)) HL6.out HOW.out).mono ?_
            rintro e w3 ⟨v1, us, rfl, hO1, hb1⟩
            have hB3 : Below w1.heap.size w1 w3 := Below.to (below_drewN (Below.refl _ _) _) hb1 (Nat.le_refl _)
            have hO : OwnBrs w3 w1.heap.size 26 3 v1 l us l.length := hO1
            obtain ⟨g, cap, rfl, hgB, hgs, hcap⟩ := owns_some hO.row (by omega)
            have hpu : p < us.length := by rw [hO.len]; exact hpl
            obtain ⟨up, hup⟩ : ∃ up, us[p] = up := ⟨_, rfl⟩
            have hOD : OwnBrs w3.drew w1.heap.size 26 3 (.slice (some ⟨g, 0, none⟩) l.length cap) l us l.length := hO.below ((Below.refl _ _).drew)
            have e3 : w3.drew.cell? ⟨g, p * 5 + 3, none⟩ = some up := by
              rw [hOD.row.cellAt _ (by omega), brCells_get l us hO.len p 3 hpl (by omega), ← hup]; rfl
            have howp := hOD.own p hpl hpu hpl
            rw [hup] at howp
            have HOWP := Lib.hid howp
            have hB3D : Below w1.heap.size w1 w3.drew := hB3.drew
            have hsrc : Hid (IsInts w3.drew (.slice ua l[k].own.length uc) l[k].own) := HU1.out.below hB3D
            have f3d : w3.drew.cell? ⟨bb, off + k * 5 + 3, none⟩ = some (.slice ua l[k].own.length uc) := (hB3D.cell hbb1).trans d3
            have fBd : w3.drew.cell? ⟨w.heap.size, 0, none⟩ = some (.int .i64 k) := (hB3D.cell hBB1).trans dB
            have hs1 : w1.heap.size ≤ w3.drew.heap.size := hB3D.size
            have HS1 := Lib.hid hs1
            have hb63 : Hid (l[p].own.length + l[k].own.length ≤ maxLen) := (by show _ ≤ _; unfold maxLen; omega)
            have hb64 : Hid ((l[p].own.length + l[k].own.length) * 8 ≤ 140737488355328) := (by show _ ≤ _; omega)
            have HUPD : Hid (∀ v2 w2, w2.ownsRow w1.heap.size 3 1 v2 (l[p].own.length + l[k].own.length) (ints l[p].own ++ ints l[k].own) → w3.drew.grownBy w2 up.ownBlock →
                ((∃ x, w2.cell? ⟨g, p * 5 + 3, none⟩ = some x) ∧ w2.frozen? ⟨g, p * 5 + 3, none⟩ = false ∧
                (∃ x, (w2.setCell ⟨g, p * 5 + 3, none⟩ v2).cell? ⟨g, k * 5 + 4, none⟩ = some x) ∧ (w2.setCell ⟨g, p * 5 + 3, none⟩ v2).frozen? ⟨g, k * 5 + 4, none⟩ = false ∧
                IsBrs ((w2.setCell ⟨g, p * 5 + 3, none⟩ v2).setCell ⟨g, k * 5 + 4, none⟩ (.bool false)) (.slice (some ⟨g, 0, none⟩) l.length cap) ((l.set p { l[p] with own := l[p].own ++ l[k].own }).set k { l[k] with opn := false })) ∧
                (w2.setCell ⟨g, p * 5 + 3, none⟩ v2).cell? ⟨w.heap.size, 0, none⟩ = some (.int .i64 k) ∧
                Below w.heap.size w ((w2.setCell ⟨g, p * 5 + 3, none⟩ v2).setCell ⟨g, k * 5 + 4, none⟩ (.bool false))) := by
              intro v2 w2 h1 h2
              have h3 : Below w1.heap.size w1 (w2.setCell ⟨g, p * 5 + 3, none⟩ v2) := (below_append hB3D howp h2 hs1).setCell hgB _
              refine ⟨remand_upd (own' := l[p].own ++ l[k].own) (by decide) hOD hpl hpu hk (by omega) (by simpa [ints] using h1) (by rw [hup]; exact h2), ?_, ?_⟩
              · exact (h3.cell hBB1).trans dB
              · exact Below.to HB1.out (h3.setCell hgB _) (Nat.le_of_lt hBB1)
            clear hO hO1 hb1 hB3 howp hup hOD hB3D hs1 d0 d3 dB
            go_wp2_with fail
            go_region_law (refine step_append_rd (by rfl) _ _ 23 (by rfl) w1.heap.size 3 _ 1 8 Try.underlying23 infoInt rfl (by decide) up l[p].own.length (ints l[p].own) (by rfl) HOWP.out _ l[k].own.length (ints l[k].own) (by rfl) hsrc.out (ints_one _) hb63.out hb64.out HS1.out ?_
                           intro v2 w2 hv2 hg2
                           obtain ⟨va, vc, rfl, -, -⟩ := owns_slice hv2
                           have HF := HUPD.out _ w2 hv2 hg2
                           clear hv2 hg2
                           obtain ⟨⟨⟨x5, c5⟩, f5, ⟨x6, c6⟩, f6, hr6⟩, cb6, hb6⟩ := HF
                           have HR6 := Lib.hid hr6
                           have HB6 := Lib.hid hb6
                           clear hr6 hb6)
            all_goals
              go_wp2
              go_ret2
              rw [← HR.out, HA.out, if_neg Bool.false_ne_true, if_neg (Int.not_lt.2 hfull)]
              exact ⟨_, rfl, HR6.out, HB6.out⟩
  · rw [openF_out hin] at hob
    rw [remandF_out hin]
    have HOB := Lib.hid hob
    clear hob hin hg hl hc hl0
    go_enter Try.func22, Try.ntmps22
    go_wp2_with fail
    rw [← HW0.out]
    refine HOB.out.mono ?_
    rintro e w' ⟨rfl, rfl⟩
    go_wp2
    go_ret2
    exact ⟨_, rfl, IsBrs.nil _ _ _, HBEL0.out⟩

end Go.Proofs.Ytgfnelpfoegdaaa
