/-
  DeleteFunc and sorted at reports, in general. (Printed by wip/tools/gen_cre.py.)
-/
import Derived.Test.YtbiedadgejgnoaaCrD
import Derived.Test.YtbiedadgejgnoaaCr7
namespace Go.Proofs.Ytbiedadgejgnoaa
open Go.RowKit

theorem rpE_set (L : List Rp) (i : Nat) (hi : i < L.length) (x : Rp) : ((((((enC rpE L).set (i * 6) (.int .i64 x.att)).set (i * 6 + 1) (.int .i64 x.day)).set (i * 6 + 2) (.int .i64 x.ret.car)).set (i * 6 + 3) (.int .i64 x.ret.kind)).set (i * 6 + 4) (.int .i64 x.ret.fr)).set (i * 6 + 5) (.int .i64 x.ret.un) = enC rpE (L.set i x) := by
  have hl : (enC rpE L).length = L.length * 6 := enC_len rpE_len L
  apply List.ext_getElem?
  intro t
  by_cases ht : t < L.length * 6
  · obtain ⟨q, r, rfl, hq, hr⟩ : ∃ q r, t = q * 6 + r ∧ q < L.length ∧ r < 6 := ⟨t / 6, t % 6, by omega, by omega, by omega⟩
    rw [enC_get rpE_len (L.set i x) q r (by simpa using hq) hr]
    by_cases e : q = i
    · subst e
      rw [List.getElem_set_self]
      rcases (by omega : r = 0 ∨ r = 1 ∨ r = 2 ∨ r = 3 ∨ r = 4 ∨ r = 5) with rfl | rfl | rfl | rfl | rfl | rfl
      · rw [List.getElem?_set_ne (by omega), List.getElem?_set_ne (by omega), List.getElem?_set_ne (by omega), List.getElem?_set_ne (by omega), List.getElem?_set_ne (by omega), Nat.add_zero, List.getElem?_set_self (by omega)]; rfl
      · rw [List.getElem?_set_ne (by omega), List.getElem?_set_ne (by omega), List.getElem?_set_ne (by omega), List.getElem?_set_ne (by omega), List.getElem?_set_self (by rw [List.length_set]; omega)]; rfl
      · rw [List.getElem?_set_ne (by omega), List.getElem?_set_ne (by omega), List.getElem?_set_ne (by omega), List.getElem?_set_self (by rw [List.length_set, List.length_set]; omega)]; rfl
      · rw [List.getElem?_set_ne (by omega), List.getElem?_set_ne (by omega), List.getElem?_set_self (by rw [List.length_set, List.length_set, List.length_set]; omega)]; rfl
      · rw [List.getElem?_set_ne (by omega), List.getElem?_set_self (by rw [List.length_set, List.length_set, List.length_set, List.length_set]; omega)]; rfl
      · rw [List.getElem?_set_self (by rw [List.length_set, List.length_set, List.length_set, List.length_set, List.length_set]; omega)]; rfl
    · rw [List.getElem_set_ne (fun h => e h.symm), List.getElem?_set_ne (by omega), List.getElem?_set_ne (by omega), List.getElem?_set_ne (by omega), List.getElem?_set_ne (by omega), List.getElem?_set_ne (by omega), List.getElem?_set_ne (by omega), enC_get rpE_len L q r hq hr]
  · rw [List.getElem?_eq_none (by rw [List.length_set, List.length_set, List.length_set, List.length_set, List.length_set, List.length_set]; omega), List.getElem?_eq_none (by rw [enC_len rpE_len, List.length_set]; omega)]

/-! ### the walk -/
set_option maxHeartbeats 4000000 in
set_option maxRecDepth 100000 in
theorem delRepG (B E : Nat) (l : List Rp) (p : Rp → Bool) (K : Nat) (caps : Array Value) (v : Value) (w : World) (hown : w.ownsRow B E 6 v l.length (enC rpE l)) (hl : l.length ≤ 1000) (hK : CanCall K)
    (hf : ∀ (x : Rp) (W : World), w.grownBy W v.ownBlock → Calls Try.prog K (#[.agg (litRp x)] ++ caps) W fun e w' => e = .returned (.bool (p x)) ∧ Below W.heap.size W w') :
    Calls Try.prog 73 #[v, .func (.func K) #[] caps] w fun e w' => ∃ v', e = .returned v' ∧ w'.ownsRow B E 6 v' (l.filter (fun x => !p x)).length (enC rpE (l.filter (fun x => !p x))) ∧ w.grownBy w' v.ownBlock ∧ (v'.ownBlock = none ∨ v'.ownBlock = v.ownBlock) := by
  have HI := Lib.hid (idxReport l p K caps v w (IsRps.of_owns hown) hK (fun i hi W hW => hf l[i] W (grown_more (grown_of_below hW))))
  rcases idxF_is (p := p) (l := l) with ⟨hi, hn⟩ | ⟨i0, hi0, hi, hb, hp⟩
  · rw [hi] at HI
    have hfil : l.filter (fun x => !p x) = l := by rw [List.filter_eq_self]; intro x hx; rw [hn x hx]; rfl
    rw [hfil]
    have HO := Lib.hid hown
    obtain ⟨a, cap, rfl, -, -⟩ := owns_slice hown
    clear hown hf hn hfil hK hi
    go_enter Try.func73, Try.ntmps73
    go_wp2_with fail
    refine HI.out.mono ?_
    rintro e w1 ⟨rfl, hb⟩
    have HB := Lib.hid hb
    clear hb HI
    go_wp2_with fail
    go_ret
    exact ⟨_, rfl, owns_below HO.out HB.out, grown_more (grown_of_below HB.out), .inr rfl⟩
  · rw [hi] at HI
    obtain ⟨g, cap, rfl, hg0, hg1, hcap⟩ := owns_some hown (by omega)
    have HST := Lib.hid (DelAt.start hi0 hb hp)
    have HO := Lib.hid hown
    have HF := Lib.hid hf
    have HKC := Lib.hid hK
    obtain ⟨N, hN⟩ : ∃ N, l.length = N := ⟨_, rfl⟩
    have hw0 : IntKind.i64.wrap ((i0 : Int) + 1) = ((i0 + 1 : Nat) : Int) := by rw [IntKind.wrap_i64]; omega
    have hne1 : ((i0 : Int) == -1) = false := by
      simp only [beq_eq_false_iff_ne, ne_eq]
      omega
    have hcapN : N ≤ cap := by omega
    rw [hN] at HO HI hi0 hl
    rw [hN]
    have HN := Lib.hid hN
    clear hown hf hK hb hp hi hN
    go_enter Try.func73, Try.ntmps73
    go_wp2_with fail
    refine HI.out.mono ?_
    rintro e w1 ⟨rfl, hb1⟩
    have HO1 := Lib.hid (owns_below HO.out hb1)
    have HG1 : Hid (w.grownBy w1 (some g)) := grown_more (grown_of_below hb1)
    clear hb1 HI HO
    go_wp2_with fail
    go_loopw [5, 6] (fun q t wr => ∃ (i j : Nat) (L : List Rp), q = .int .i64 i ∧ t = .int .i64 j ∧ i < j ∧ j ≤ N ∧ Hid (DelAt p l L i j) ∧ Hid (wr.ownsRow B E 6 (.slice (some ⟨g, 0, none⟩) N cap) N (enC rpE L)) ∧ Hid (w.grownBy wr (some g))) (fun _ t _ => N - (intOf t).toNat)
    case atStart => exact ⟨i0, i0 + 1, l, rfl, rfl, by omega, by omega, HST, HO1, HG1⟩
    case round =>
      obtain ⟨i, j, L, rfl, rfl, hij, hj, HDA, HOW, HGR⟩ := hrel
      have hLN : L.length = N := by rw [HDA.out.len]; exact HN.out
      by_cases hjn : j < N
      · have ej : IntKind.i64.wrap ((j : Int) + 1) = ((j + 1 : Nat) : Int) := by rw [IntKind.wrap_i64]; omega
        have ei : IntKind.i64.wrap ((i : Int) + 1) = ((i + 1 : Nat) : Int) := by rw [IntKind.wrap_i64]; omega
        have hjI : (j : Int) < (N : Int) := by omega
        have hiI : (i : Int) < (N : Int) := by omega
        have hjl : j < l.length := by rw [HN.out]; exact hjn
        have hjL : j < L.length := by rw [hLN]; exact hjn
        have hiL : i < L.length := by rw [hLN]; omega
        have hLj : L[j] = l[j] := by
          have h := HDA.out.back j (Nat.le_refl _)
          rw [List.getElem?_eq_getElem hjL, List.getElem?_eq_getElem hjl] at h
          exact Option.some.inj h
        have hc : ∀ r, r < 6 → wr.cell? ⟨g, j * 6 + r, none⟩ = (rpE l[j])[r]? := fun r hr => by rw [HOW.out.cellAt _ (by omega), enC_get rpE_len L j r hjL hr, hLj]
        have HDD := Lib.hid (fun h => HDA.out.drop hjl h)
        have HDK := Lib.hid (fun h => HDA.out.keep hjl h)
        have HSE := Lib.hid (rpE_set L i hiL l[j])
        obtain ⟨pb, hpb⟩ : ∃ b, p l[j] = b := ⟨_, rfl⟩
        have HFJ := Lib.hid (fun W hW => HF.out l[j] W hW)
        rw [hpb] at HDD HDK HFJ
        clear hpb hLj
        generalize l[j] = x at *
        obtain ⟨s0, s1, ⟨s2, s3, s4, s5⟩⟩ := x
        simp only at HSE
        have c0 : wr.cell? ⟨g, j * 6, none⟩ = some (.int .i64 s0) := (hc 0 (by omega)).trans rfl
        have c1 : wr.cell? ⟨g, j * 6 + 1, none⟩ = some (.int .i64 s1) := (hc 1 (by omega)).trans rfl
        have c2 : wr.cell? ⟨g, j * 6 + 2, none⟩ = some (.int .i64 s2) := (hc 2 (by omega)).trans rfl
        have c3 : wr.cell? ⟨g, j * 6 + 3, none⟩ = some (.int .i64 s3) := (hc 3 (by omega)).trans rfl
        have c4 : wr.cell? ⟨g, j * 6 + 4, none⟩ = some (.int .i64 s4) := (hc 4 (by omega)).trans rfl
        have c5 : wr.cell? ⟨g, j * 6 + 5, none⟩ = some (.int .i64 s5) := (hc 5 (by omega)).trans rfl
        have hb1 : Below wr.heap.size wr (wr.alloc (.cells #[.int .i64 s0, .int .i64 s1, .int .i64 s2, .int .i64 s3, .int .i64 s4, .int .i64 s5] 62)) := (Below.refl _ _).alloc (Nat.le_refl _) _
        obtain ⟨⟨k0, k1, k2, k3, k4, k5⟩, -⟩ := six_c (heap_alloc_new wr (.cells #[.int .i64 s0, .int .i64 s1, .int .i64 s2, .int .i64 s3, .int .i64 s4, .int .i64 s5] 62))
        have HO2 := Lib.hid (owns_below HOW.out hb1)
        have HG2 : Hid (w.grownBy (wr.alloc (.cells #[.int .i64 s0, .int .i64 s1, .int .i64 s2, .int .i64 s3, .int .i64 s4, .int .i64 s5] 62)) (some g)) := grown_then HGR.out hb1
        have HCL := Lib.hid (HFJ.out _ HG2.out)
        have HKB : Hid (∀ X, Below (wr.alloc (.cells #[.int .i64 s0, .int .i64 s1, .int .i64 s2, .int .i64 s3, .int .i64 s4, .int .i64 s5] 62)).heap.size (wr.alloc (.cells #[.int .i64 s0, .int .i64 s1, .int .i64 s2, .int .i64 s3, .int .i64 s4, .int .i64 s5] 62)) X → X.cell? ⟨wr.heap.size, 0, none⟩ = some (.int .i64 s0) ∧ X.cell? ⟨wr.heap.size, 1, none⟩ = some (.int .i64 s1) ∧ X.cell? ⟨wr.heap.size, 2, none⟩ = some (.int .i64 s2) ∧ X.cell? ⟨wr.heap.size, 3, none⟩ = some (.int .i64 s3) ∧ X.cell? ⟨wr.heap.size, 4, none⟩ = some (.int .i64 s4) ∧ X.cell? ⟨wr.heap.size, 5, none⟩ = some (.int .i64 s5)) := fun X hX => ⟨(hX.cell (p := ⟨wr.heap.size, 0, none⟩) (by simp)).trans k0, (hX.cell (p := ⟨wr.heap.size, 1, none⟩) (by simp)).trans k1, (hX.cell (p := ⟨wr.heap.size, 2, none⟩) (by simp)).trans k2, (hX.cell (p := ⟨wr.heap.size, 3, none⟩) (by simp)).trans k3, (hX.cell (p := ⟨wr.heap.size, 4, none⟩) (by simp)).trans k4, (hX.cell (p := ⟨wr.heap.size, 5, none⟩) (by simp)).trans k5⟩
        clear hc hb1 HFJ
        go_wp2_with fail
        rw [HKC.out, Oper.upon_enter]
        refine HCL.out.mono ?_
        rintro e w3 ⟨rfl, hb3⟩
        have HO3 := Lib.hid (owns_below HO2.out hb3)
        have HG3 : Hid (w.grownBy w3 (some g)) := grown_then HG2.out hb3
        obtain ⟨m0, m1, m2, m3, m4, m5⟩ := HKB.out w3 hb3
        clear hb3 HCL HKB k0 k1 k2 k3 k4 k5 c0 c1 c2 c3 c4 c5 HO2 HG2
        cases pb with
        | true =>
          have HD9 := Lib.hid (HDD.out rfl)
          clear HDD HDK HSE
          go_wp2_with fail
          go_roundw
          case rel => exact ⟨i, j + 1, L, rfl, by go_num, by omega, by omega, HD9, HO3, HG3⟩
          case measure => simp [intOf]; omega
        | false =>
          have HD9 := Lib.hid (HDK.out rfl)
          have t0 := HO3.out.stored (i * 6) (.int .i64 s0)
          have t1 := t0.1.stored (i * 6 + 1) (.int .i64 s1)
          have t2 := t1.1.stored (i * 6 + 2) (.int .i64 s2)
          have t3 := t2.1.stored (i * 6 + 3) (.int .i64 s3)
          have t4 := t3.1.stored (i * 6 + 4) (.int .i64 s4)
          have t5 := t4.1.stored (i * 6 + 5) (.int .i64 s5)
          have f0 := HO3.out.frozenAt (i * 6)
          have f1 := t0.1.frozenAt (i * 6 + 1)
          have f2 := t1.1.frozenAt (i * 6 + 2)
          have f3 := t2.1.frozenAt (i * 6 + 3)
          have f4 := t3.1.frozenAt (i * 6 + 4)
          have f5 := t4.1.frozenAt (i * 6 + 5)
          have hlc : (enC rpE L).length = N * 6 := by rw [enC_len rpE_len, hLN]
          obtain ⟨q0, hq0⟩ : ∃ x, w3.cell? ⟨g, i * 6, none⟩ = some x := ⟨_, by rw [HO3.out.cellAt _ (by omega), List.getElem?_eq_getElem (by omega)]⟩
          obtain ⟨q1, hq1⟩ : ∃ x, (w3.setCell ⟨g, i * 6, none⟩ (.int .i64 s0)).cell? ⟨g, i * 6 + 1, none⟩ = some x := ⟨_, by rw [t0.1.cellAt _ (by omega), List.getElem?_eq_getElem (by rw [List.length_set]; omega)]⟩
          obtain ⟨q2, hq2⟩ : ∃ x, ((w3.setCell ⟨g, i * 6, none⟩ (.int .i64 s0)).setCell ⟨g, i * 6 + 1, none⟩ (.int .i64 s1)).cell? ⟨g, i * 6 + 2, none⟩ = some x := ⟨_, by rw [t1.1.cellAt _ (by omega), List.getElem?_eq_getElem (by rw [List.length_set, List.length_set]; omega)]⟩
          obtain ⟨q3, hq3⟩ : ∃ x, (((w3.setCell ⟨g, i * 6, none⟩ (.int .i64 s0)).setCell ⟨g, i * 6 + 1, none⟩ (.int .i64 s1)).setCell ⟨g, i * 6 + 2, none⟩ (.int .i64 s2)).cell? ⟨g, i * 6 + 3, none⟩ = some x := ⟨_, by rw [t2.1.cellAt _ (by omega), List.getElem?_eq_getElem (by rw [List.length_set, List.length_set, List.length_set]; omega)]⟩
          obtain ⟨q4, hq4⟩ : ∃ x, ((((w3.setCell ⟨g, i * 6, none⟩ (.int .i64 s0)).setCell ⟨g, i * 6 + 1, none⟩ (.int .i64 s1)).setCell ⟨g, i * 6 + 2, none⟩ (.int .i64 s2)).setCell ⟨g, i * 6 + 3, none⟩ (.int .i64 s3)).cell? ⟨g, i * 6 + 4, none⟩ = some x := ⟨_, by rw [t3.1.cellAt _ (by omega), List.getElem?_eq_getElem (by rw [List.length_set, List.length_set, List.length_set, List.length_set]; omega)]⟩
          obtain ⟨q5, hq5⟩ : ∃ x, (((((w3.setCell ⟨g, i * 6, none⟩ (.int .i64 s0)).setCell ⟨g, i * 6 + 1, none⟩ (.int .i64 s1)).setCell ⟨g, i * 6 + 2, none⟩ (.int .i64 s2)).setCell ⟨g, i * 6 + 3, none⟩ (.int .i64 s3)).setCell ⟨g, i * 6 + 4, none⟩ (.int .i64 s4)).cell? ⟨g, i * 6 + 5, none⟩ = some x := ⟨_, by rw [t4.1.cellAt _ (by omega), List.getElem?_eq_getElem (by rw [List.length_set, List.length_set, List.length_set, List.length_set, List.length_set]; omega)]⟩
          have ho := t5.1
          rw [HSE.out] at ho
          have HO4 := Lib.hid ho
          have HG4 : Hid (w.grownBy ((((((w3.setCell ⟨g, i * 6, none⟩ (.int .i64 s0)).setCell ⟨g, i * 6 + 1, none⟩ (.int .i64 s1)).setCell ⟨g, i * 6 + 2, none⟩ (.int .i64 s2)).setCell ⟨g, i * 6 + 3, none⟩ (.int .i64 s3)).setCell ⟨g, i * 6 + 4, none⟩ (.int .i64 s4)).setCell ⟨g, i * 6 + 5, none⟩ (.int .i64 s5)) (some g)) := (grown_on (grown_on (grown_on (grown_on (grown_on (grown_on HG3.out t0.2) t1.2) t2.2) t3.2) t4.2) t5.2)
          clear HDD HDK HSE t0 t1 t2 t3 t4 t5 ho hlc
          go_wp2_with fail
          go_roundw
          case rel => exact ⟨i + 1, j + 1, _, by go_num, by go_num, by omega, by omega, HD9, HO4, HG4⟩
          case measure => simp [intOf]; omega
      · have hjI : ¬ (j : Int) < (N : Int) := by omega
        have hje : j = l.length := by have := HN.out; omega
        have hda := HDA.out
        rw [hje] at hda
        have hiN : i ≤ N := by omega
        have hfil : L.take i = l.filter (fun x => !p x) := hda.done
        have hfl : (l.filter (fun x => !p x)).length = i := by rw [← hfil, List.length_take]; omega
        obtain ⟨xs', g1, g2, g3⟩ := owns_setCells (List.replicate ((N - i) * 6) (.int .i64 0)) (i * 6) wr (enC rpE L) HOW.out
        have g4 := owns_take g1 hiN (by omega)
        have hen : xs'.take (i * 6) = enC rpE (l.filter (fun x => !p x)) := by
          rw [g2, ← hfil]
          have e : enC rpE L = enC rpE (L.take i) ++ enC rpE (L.drop i) := by rw [← enC_append, List.take_append_drop]
          rw [e, List.take_append_of_le_length (by rw [enC_len rpE_len, List.length_take]; omega), List.take_of_length_le (by rw [enC_len rpE_len, List.length_take]; omega)]
        rw [hen] at g4
        have HRES : Hid ((wr.setCells g (i * 6) (List.replicate ((N - i) * 6) (.int .i64 0))).ownsRow B E 6 (.slice (some ⟨g, 0, none⟩) i cap) (l.filter (fun x => !p x)).length (enC rpE (l.filter (fun x => !p x)))) := by show World.ownsRow _ _ _ _ _ _ _; rw [hfl]; exact g4
        have HGF : Hid (w.grownBy (wr.setCells g (i * 6) (List.replicate ((N - i) * 6) (.int .i64 0))) (some g)) := grown_on HGR.out g3
        have hcl : ∀ ty, (Builtin.clear_ #[58] ty #[.slice (some ⟨g, i * 6, none⟩) (N - i) (cap - i)]).run Try.prog wr = .ok (.tuple #[]) (wr.setCells g (i * 6) (List.replicate ((N - i) * 6) (.int .i64 0))) := fun ty =>
          run_clear_k wr _ _ ty (.agg #[.int .i64 0, .int .i64 0, .int .i64 0, .int .i64 0, .int .i64 0, .int .i64 0]) (.int .i64 0) 6 (by omega) Try.underlying58 Try.zeroValue62 rfl rfl g (i * 6) (N - i) (cap - i)
            (fun q hq => by rw [HOW.out.cellAt _ (by omega), List.getElem?_eq_getElem (by rw [enC_len rpE_len, hLN]; omega)]; rfl) (fun q hq => HOW.out.frozenAt _)
        have hi0 : (0 : Int) ≤ (i : Int) := by omega
        have hiNI : (i : Int) ≤ (N : Int) := by omega
        have hiC : (i : Int) ≤ (cap : Int) := by omega
        clear g1 g2 g3 g4 hen hfil hfl hda hje HDA
        go_wp2_with fail
        go_ret
        exact ⟨_, rfl, HRES.out, HGF.out, .inr rfl⟩

set_option maxHeartbeats 1000000 in
set_option maxRecDepth 100000 in
/-- sorted at reports, in general: a permutation of those up to the day. -/
theorem sortedRepG (B E : Nat) (v : Value) (l : List Rp) (u : Int) (w : World) (hown : w.ownsRow B E 6 v l.length (enC rpE l)) (hl : l.length ≤ 19) :
    Calls Try.prog 49 #[v, .int .i64 u, .func (.func 50) #[] #[]] w fun e w' => ∃ v', e = .returned v' ∧ ∃ l', l'.Perm (l.filter (fun x => !decide (u < x.day))) ∧ w'.ownsRow B E 6 v' l'.length (enC rpE l') ∧ w.grownBy w' v.ownBlock := by
  obtain ⟨W0, hW0⟩ : ∃ W0, W0 = (w.alloc (.cells #[.int .i64 u] 3)).alloc (.cells #[.func (.func 50) #[] #[]] 86) := ⟨_, rfl⟩
  obtain ⟨U, hU⟩ : ∃ U, U = w.heap.size := ⟨_, rfl⟩
  have hb0 : Below w.heap.size w W0 := by rw [hW0]; exact ((Below.refl _ _).alloc (Nat.le_refl _) _).alloc (by simp) _
  have cU : W0.cell? ⟨U, 0, none⟩ = some (.int .i64 u) := by
    rw [hW0, hU]
    exact (((Below.refl (w.alloc (.cells #[.int .i64 u] 3)).heap.size _).alloc (Nat.le_refl _) _).cell (p := ⟨w.heap.size, 0, none⟩) (by simp)).trans ((cells_alloc w #[.int .i64 u] 3 0).trans rfl)
  have cF : W0.cell? ⟨U + 1, 0, none⟩ = some (.func (.func 50) #[] #[]) := by
    have h := cells_alloc (w.alloc (.cells #[.int .i64 u] 3)) #[.func (.func 50) #[] #[]] 86 0
    rw [World.size_alloc] at h
    rw [hW0, hU]
    exact h.trans rfl
  have hFlt : U + 1 < W0.heap.size := by rw [hW0, hU]; simp
  have ho0 := owns_below hown hb0
  have hne : v.ownBlock ≠ some (U + 1) := fun e => by have := (hown.lt _ e).2; omega
  have hne2 : v.ownBlock ≠ some U := fun e => by have := (hown.lt _ e).2; omega
  have hkeep : ∀ W, W0.grownBy W v.ownBlock → W.cell? ⟨U + 1, 0, none⟩ = some (.func (.func 50) #[] #[]) ∧ W.cell? ⟨U, 0, none⟩ = some (.int .i64 u) := fun W hW =>
    ⟨(World.cell?_of_block (hW.block (U + 1) hFlt (fun e => hne e.symm))).trans cF, (World.cell?_of_block (hW.block U (by omega) (fun e => hne2 e.symm))).trans cU⟩
  have HD := Lib.hid (delRepG B E l (fun x => decide (u < x.day)) 74 #[.pointer (some ⟨U + 1, 0, none⟩), .pointer (some ⟨U, 0, none⟩)] v W0 ho0 (by omega) canDelRep
    (fun x W hW => delRep x u (U + 1) U W (hkeep W hW).1 (hkeep W hW).2))
  have hfl : (l.filter (fun x => !decide (u < x.day))).length ≤ 19 := Nat.le_trans (List.length_filter_le _ _) hl
  have HS : Hid (∀ (W : World) (v' : Value), W0.grownBy W v.ownBlock → (v'.ownBlock = none ∨ v'.ownBlock = v.ownBlock) → W.ownsRow B E 6 v' (l.filter (fun x => !decide (u < x.day))).length (enC rpE (l.filter (fun x => !decide (u < x.day)))) → Calls Try.prog 75 #[v', .func (.func 76) #[] #[.pointer (some ⟨U + 1, 0, none⟩)]] W fun e w' => e = .returned (.tuple #[]) ∧ ∃ l', l'.Perm (l.filter (fun x => !decide (u < x.day))) ∧ w'.ownsRow B E 6 v' l'.length (enC rpE l') ∧ W.grownBy w' v'.ownBlock) := fun W v' hW hv' ho =>
    sortRep (U + 1) B E v' _ W ho hfl (hkeep W hW).1 (by rcases hv' with h | h; rw [h]; intro e; cases e; rw [h]; exact hne)
  have HB0 : Hid (∀ W, W0.grownBy W v.ownBlock → w.grownBy W v.ownBlock) := fun W hW => grown_behind hb0 hW
  have HW0 := Lib.hid hW0
  have HU := Lib.hid hU
  obtain ⟨a, cap, rfl, -, -⟩ := owns_slice hown
  generalize l.filter (fun x => !decide (u < x.day)) = M at *
  clear hown hW0 hU hb0 cU cF hFlt ho0 hne hne2 hkeep hfl
  go_enter Try.func49, Try.ntmps49
  go_wp2_with fail
  rw [← HW0.out, ← HU.out]
  refine HD.out.mono ?_
  rintro e w1 ⟨v', rfl, ho1, hg1, hv1⟩
  have HS1 := Lib.hid (HS.out w1 v' hg1 hv1 ho1)
  have HB1 := Lib.hid (HB0.out w1 hg1)
  have HV1 : Hid (∀ X, w1.grownBy X v'.ownBlock → w1.grownBy X (Value.slice a l.length cap).ownBlock) := fun X hX => by
    rcases hv1 with h | h
    · rw [h] at hX; exact grown_more hX
    · rw [h] at hX; exact hX
  obtain ⟨a', cap', rfl, -, -⟩ := owns_slice ho1
  clear ho1 hg1 hv1 HD HS HB0
  go_wp2_with fail
  refine HS1.out.mono ?_
  rintro e w2 ⟨rfl, l', hp, ho, hg⟩
  have HR : Hid (∃ l', l'.Perm M ∧ w2.ownsRow B E 6 (.slice a' M.length cap') l'.length (enC rpE l') ∧ w.grownBy w2 (Value.slice a l.length cap).ownBlock) := ⟨l', hp, ho, grown_on HB1.out (HV1.out _ hg)⟩
  clear hp ho hg HS1 HV1
  go_wp2_with fail
  go_ret
  exact ⟨_, rfl, HR.out⟩

end Go.Proofs.Ytbiedadgejgnoaa
