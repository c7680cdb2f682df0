/-
  DeleteFunc at deliveries, in general: what is left is the filtered list, in its place.
-/
import Derived.Test.YtbiedadgejgnoaaCr6
import Derived.Lib.SliceRun
namespace Go.Proofs.Ytbiedadgejgnoaa
open Go.RowKit

/-! ### clear at rows -/
theorem run_clear_k {P : Program} (w : World) (t e ty : TypeId) (z zi : Value) (K : Nat) (hK : 0 < K) (ht : P.underlying t = some (.slice e)) (hv : ∀ w, (zeroValue e).run P w = .ok z w) (hz : z.cells = Array.replicate K zi) (h1 : zi.oneCell' = true) (b o n c : Nat)
    (hc : ∀ j, j < n * K → (w.cell? ⟨b, o + j, none⟩).isSome = true) (hf : ∀ j, j < n * K → w.frozen? ⟨b, o + j, none⟩ = false) :
    (Builtin.clear_ #[t] ty #[.slice (some ⟨b, o, none⟩) n c]).run P w = .ok (.tuple #[]) (w.setCells b o (List.replicate (n * K) zi)) := by
  rcases Nat.eq_zero_or_pos n with rfl | hn
  · rw [Nat.zero_mul]
    simp [Builtin.clear_, run_underlying ht, World.setCells]
  · have hzc : (Builtin.zeroCells z.cells n).toList = List.replicate (n * K) zi := by
      rw [hz]
      simp [Builtin.zeroCells]
      apply List.ext_getElem
      · simp
      · intro i h1 h2
        have hm : i % K < K := Nat.mod_lt _ hK
        simp [hm]
    have hst := run_storeCells_cells (P := P) b o (List.replicate (n * K) zi) 0 w (by simpa using hc) (by simpa using hf) (by intro v hv'; rw [List.eq_of_mem_replicate hv']; exact h1)
    simp only [Nat.add_zero] at hst
    obtain ⟨m, rfl⟩ : ∃ m, n = m + 1 := ⟨n - 1, by omega⟩
    simp [Builtin.clear_, run_underlying ht, hv, hzc, hst]

/-- Cells behind the first are written: the first ones stay. -/
theorem owns_setCells {B E s n g cap : Nat} : ∀ (vs : List Value) (o : Nat) (w : World) (xs : List Value), w.ownsRow B E s (.slice (some ⟨g, 0, none⟩) n cap) n xs → ∃ xs', (w.setCells g o vs).ownsRow B E s (.slice (some ⟨g, 0, none⟩) n cap) n xs' ∧ xs'.take o = xs.take o ∧ w.grownBy (w.setCells g o vs) (some g)
  | [], o, w, xs, h => ⟨xs, h, rfl, grown_more (grown_of_below (Below.refl _ _))⟩
  | v :: vs, o, w, xs, h => by
    have h1 := h.stored o v
    obtain ⟨xs', h2, h3, h4⟩ := owns_setCells vs (o + 1) (w.setCell ⟨g, o, none⟩ v) (xs.set o v) h1.1
    refine ⟨xs', h2, ?_, ?_⟩
    · have e := congrArg (List.take o) h3
      rw [List.take_take, List.take_take, Nat.min_eq_left (by omega)] at e
      rw [e, List.take_set_of_le (Nat.le_refl _)]
    · have g1 := h1.2
      exact ⟨h4.os.trans g1.os, h4.tape.trans g1.tape, h4.output.trans g1.output, Nat.le_trans g1.size h4.size, fun k hk hne => (h4.block k (Nat.lt_of_lt_of_le hk g1.size) hne).trans (g1.block k hk hne)⟩
/-- The first elements of a row. -/
theorem owns_take {w : World} {B E s n k cap : Nat} {a : Option Addr} {xs : List Value} (h : w.ownsRow B E s (.slice a n cap) n xs) (hk : k ≤ n) (hpos : 0 < n) : w.ownsRow B E s (.slice a k cap) k (xs.take (k * s)) := by
  have hks : k * s ≤ n * s := Nat.mul_le_mul_right s hk
  rcases h.2 with ⟨e, hn, -⟩ | ⟨g, cap', cur, e, hB, hg, hn, hm, hcs, htk⟩
  · omega
  · simp only [Value.slice.injEq, true_and] at e
    obtain ⟨rfl, rfl⟩ := e
    refine ⟨by rw [List.length_take, h.1]; omega, .inr ⟨g, cap, cur, rfl, hB, hg, by omega, hm, hcs, ?_⟩⟩
    rw [← htk, List.take_take, Nat.min_eq_left hks]

theorem grown_then {w w1 w2 : World} {r : Option Nat} (h : w.grownBy w1 r) (h2 : Below w1.heap.size w1 w2) : w.grownBy w2 r :=
  ⟨h2.os.trans h.os, h2.tape.trans h.tape, h2.output.trans h.output, Nat.le_trans h.size h2.size, fun k hk hr => (h2.block k (Nat.lt_of_lt_of_le hk h.size)).trans (h.block k hk hr)⟩
theorem grown_on {w w1 w2 : World} {r : Option Nat} (h : w.grownBy w1 r) (h2 : w1.grownBy w2 r) : w.grownBy w2 r :=
  ⟨h2.os.trans h.os, h2.tape.trans h.tape, h2.output.trans h.output, Nat.le_trans h.size h2.size, fun k hk hr => (h2.block k (Nat.lt_of_lt_of_le hk h.size) hr).trans (h.block k hk hr)⟩

/-! ### plain -/
theorem dlE_set (L : List Dl) (i : Nat) (hi : i < L.length) (x : Dl) : (((enC dlE L).set (i * 3) (.int .i64 x.att)).set (i * 3 + 1) (.int .i64 x.par)).set (i * 3 + 2) (.int .i64 x.day) = enC dlE (L.set i x) := by
  have hl : (enC dlE L).length = L.length * 3 := enC_len dlE_len L
  apply List.ext_getElem?
  intro t
  by_cases ht : t < L.length * 3
  · obtain ⟨q, r, rfl, hq, hr⟩ : ∃ q r, t = q * 3 + r ∧ q < L.length ∧ r < 3 := ⟨t / 3, t % 3, by omega, by omega, by omega⟩
    rw [enC_get dlE_len (L.set i x) q r (by simpa using hq) hr]
    by_cases e : q = i
    · subst e
      rw [List.getElem_set_self]
      rcases (by omega : r = 0 ∨ r = 1 ∨ r = 2) with rfl | rfl | rfl
      · rw [List.getElem?_set_ne (by omega), List.getElem?_set_ne (by omega), Nat.add_zero, List.getElem?_set_self (by omega)]; rfl
      · rw [List.getElem?_set_ne (by omega), List.getElem?_set_self (by rw [List.length_set]; omega)]; rfl
      · rw [List.getElem?_set_self (by rw [List.length_set, List.length_set]; omega)]; rfl
    · rw [List.getElem_set_ne (fun h => e h.symm), List.getElem?_set_ne (by omega), List.getElem?_set_ne (by omega), List.getElem?_set_ne (by omega), enC_get dlE_len L q r hq hr]
  · rw [List.getElem?_eq_none (by rw [List.length_set, List.length_set, List.length_set]; omega), List.getElem?_eq_none (by rw [enC_len dlE_len, List.length_set]; omega)]

/-- What the loop of DeleteFunc has done. -/
structure DelAt {α : Type} (p : α → Bool) (l L : List α) (i j : Nat) : Prop where
  len : L.length = l.length
  lt : i < j
  le : j ≤ l.length
  front : L.take i = (l.take j).filter (fun x => !p x)
  back : ∀ q, j ≤ q → L[q]? = l[q]?
theorem DelAt.start {α : Type} {p : α → Bool} {l : List α} {i : Nat} (hi : i < l.length) (hb : ∀ j (h : j < l.length), j < i → p l[j] = false) (hp : p l[i] = true) : DelAt p l l i (i + 1) := by
  refine ⟨rfl, by omega, by omega, ?_, fun _ _ => rfl⟩
  rw [List.take_succ_eq_append_getElem hi, List.filter_append]
  have e : (l.take i).filter (fun x => !p x) = l.take i := by
    rw [List.filter_eq_self]
    intro x hx
    obtain ⟨j, hj, rfl⟩ := List.mem_iff_getElem.1 hx
    rw [List.length_take] at hj
    rw [List.getElem_take, hb j (by omega) (by omega)]
    rfl
  rw [e]
  simp [hp]
theorem DelAt.drop {α : Type} {p : α → Bool} {l L : List α} {i j : Nat} (h : DelAt p l L i j) (hj : j < l.length) (hp : p l[j] = true) : DelAt p l L i (j + 1) := by
  refine ⟨h.len, by have := h.lt; omega, by omega, ?_, fun q hq => h.back q (by omega)⟩
  rw [List.take_succ_eq_append_getElem hj, List.filter_append, h.front]
  simp [hp]
theorem DelAt.keep {α : Type} {p : α → Bool} {l L : List α} {i j : Nat} (h : DelAt p l L i j) (hj : j < l.length) (hp : p l[j] = false) : DelAt p l (L.set i l[j]) (i + 1) (j + 1) := by
  have hil : i < L.length := by have := h.len; have := h.lt; omega
  refine ⟨by rw [List.length_set]; exact h.len, by have := h.lt; omega, by omega, ?_, fun q hq => ?_⟩
  · rw [List.take_succ_eq_append_getElem hj, List.filter_append, ← h.front]
    rw [List.take_succ_eq_append_getElem (by rw [List.length_set]; exact hil), List.getElem_set_self, List.take_set_of_le (Nat.le_refl _)]
    simp [hp]
  · rw [List.getElem?_set_ne (by have := h.lt; omega)]
    exact h.back q (by omega)
theorem DelAt.done {α : Type} {p : α → Bool} {l L : List α} {i : Nat} (h : DelAt p l L i l.length) : L.take i = l.filter (fun x => !p x) := by rw [h.front, List.take_length]
theorem idxF_is {α : Type} {p : α → Bool} {l : List α} : (idxF p l = -1 ∧ ∀ x ∈ l, p x = false) ∨ ∃ i, ∃ hi : i < l.length, idxF p l = (i : Int) ∧ (∀ j (h : j < l.length), j < i → p l[j] = false) ∧ p l[i] = true := by
  cases h : l.findIdx? p with
  | none =>
    left
    rw [List.findIdx?_eq_none_iff] at h
    refine ⟨idxF_all h, h⟩
  | some j =>
    right
    obtain ⟨hj, h1, h2⟩ := List.findIdx?_eq_some_iff_getElem.1 h
    have hb : ∀ k (hk : k < l.length), k < j → p l[k] = false := fun k hk hkj => by have := h2 k hkj; simpa using this
    exact ⟨j, hj, idxF_here hj hb h1, hb, h1⟩

/-! ### the walk -/
set_option maxHeartbeats 4000000 in
set_option maxRecDepth 100000 in
theorem delDelG (B E : Nat) (l : List Dl) (p : Dl → Bool) (K : Nat) (caps : Array Value) (v : Value) (w : World) (hown : w.ownsRow B E 3 v l.length (enC dlE l)) (hl : l.length ≤ 1000) (hK : CanCall K)
    (hf : ∀ (x : Dl) (W : World), w.grownBy W v.ownBlock → Calls Try.prog K (#[.agg (litDl x)] ++ caps) W fun e w' => e = .returned (.bool (p x)) ∧ Below W.heap.size W w') :
    Calls Try.prog 68 #[v, .func (.func K) #[] caps] w fun e w' => ∃ v', e = .returned v' ∧ w'.ownsRow B E 3 v' (l.filter (fun x => !p x)).length (enC dlE (l.filter (fun x => !p x))) ∧ w.grownBy w' v.ownBlock ∧ (v'.ownBlock = none ∨ v'.ownBlock = v.ownBlock) := by
  have HI := Lib.hid (idxDelivery l p K caps v w (IsDls.of_owns hown) hK (fun i hi W hW => hf l[i] W (grown_more (grown_of_below hW))))
  rcases idxF_is (p := p) (l := l) with ⟨hi, hn⟩ | ⟨i0, hi0, hi, hb, hp⟩
  · rw [hi] at HI
    have hfil : l.filter (fun x => !p x) = l := by rw [List.filter_eq_self]; intro x hx; rw [hn x hx]; rfl
    rw [hfil]
    have HO := Lib.hid hown
    obtain ⟨a, cap, rfl, -, -⟩ := owns_slice hown
    clear hown hf hn hfil hK hi
    go_enter Try.func68, Try.ntmps68
    go_wp2_with fail
    refine HI.out.mono ?_
    rintro e w1 ⟨rfl, hb⟩
    have HB := Lib.hid hb
    clear hb HI
    go_wp2_with fail
    go_ret
    exact ⟨_, rfl, owns_below HO.out HB.out, grown_more (grown_of_below HB.out), .inr rfl⟩
  · rw [hi] at HI
    obtain ⟨g, cap, rfl, hg0, hg1, hcap⟩ := owns_some hown (by omega)
    have HST := Lib.hid (DelAt.start hi0 hb hp)
    have HO := Lib.hid hown
    have HF := Lib.hid hf
    have HKC := Lib.hid hK
    obtain ⟨N, hN⟩ : ∃ N, l.length = N := ⟨_, rfl⟩
    have hw0 : IntKind.i64.wrap ((i0 : Int) + 1) = ((i0 + 1 : Nat) : Int) := by rw [IntKind.wrap_i64]; omega
    have hne1 : ((i0 : Int) == -1) = false := by
      simp only [beq_eq_false_iff_ne, ne_eq]
      omega
    have hcapN : N ≤ cap := by omega
    rw [hN] at HO HI hi0 hl
    rw [hN]
    have HN := Lib.hid hN
    clear hown hf hK hb hp hi hN
    go_enter Try.func68, Try.ntmps68
    go_wp2_with fail
    refine HI.out.mono ?_
    rintro e w1 ⟨rfl, hb1⟩
    have HO1 := Lib.hid (owns_below HO.out hb1)
    have HG1 : Hid (w.grownBy w1 (some g)) := grown_more (grown_of_below hb1)
    clear hb1 HI HO
    go_wp2_with fail
    go_loopw [5, 6] (fun q t wr => ∃ (i j : Nat) (L : List Dl), q = .int .i64 i ∧ t = .int .i64 j ∧ i < j ∧ j ≤ N ∧ Hid (DelAt p l L i j) ∧ Hid (wr.ownsRow B E 3 (.slice (some ⟨g, 0, none⟩) N cap) N (enC dlE L)) ∧ Hid (w.grownBy wr (some g))) (fun _ t _ => N - (intOf t).toNat)
    case atStart => exact ⟨i0, i0 + 1, l, rfl, rfl, by omega, by omega, HST, HO1, HG1⟩
    case round =>
      obtain ⟨i, j, L, rfl, rfl, hij, hj, HDA, HOW, HGR⟩ := hrel
      have hLN : L.length = N := by rw [HDA.out.len]; exact HN.out
      by_cases hjn : j < N
      · have ej : IntKind.i64.wrap ((j : Int) + 1) = ((j + 1 : Nat) : Int) := by rw [IntKind.wrap_i64]; omega
        have ei : IntKind.i64.wrap ((i : Int) + 1) = ((i + 1 : Nat) : Int) := by rw [IntKind.wrap_i64]; omega
        have hjI : (j : Int) < (N : Int) := by omega
        have hiI : (i : Int) < (N : Int) := by omega
        have hjl : j < l.length := by rw [HN.out]; exact hjn
        have hjL : j < L.length := by rw [hLN]; exact hjn
        have hiL : i < L.length := by rw [hLN]; omega
        have hLj : L[j] = l[j] := by
          have h := HDA.out.back j (Nat.le_refl _)
          rw [List.getElem?_eq_getElem hjL, List.getElem?_eq_getElem hjl] at h
          exact Option.some.inj h
        have hc : ∀ r, r < 3 → wr.cell? ⟨g, j * 3 + r, none⟩ = (dlE l[j])[r]? := fun r hr => by rw [HOW.out.cellAt _ (by omega), enC_get dlE_len L j r hjL hr, hLj]
        have HDD := Lib.hid (fun h => HDA.out.drop hjl h)
        have HDK := Lib.hid (fun h => HDA.out.keep hjl h)
        have HSE := Lib.hid (dlE_set L i hiL l[j])
        obtain ⟨pb, hpb⟩ : ∃ b, p l[j] = b := ⟨_, rfl⟩
        have HFJ := Lib.hid (fun W hW => HF.out l[j] W hW)
        rw [hpb] at HDD HDK HFJ
        clear hpb hLj
        generalize l[j] = x at *
        obtain ⟨s0, s1, s2⟩ := x
        simp only at HSE
        have c0 : wr.cell? ⟨g, j * 3, none⟩ = some (.int .i64 s0) := (hc 0 (by omega)).trans rfl
        have c1 : wr.cell? ⟨g, j * 3 + 1, none⟩ = some (.int .i64 s1) := (hc 1 (by omega)).trans rfl
        have c2 : wr.cell? ⟨g, j * 3 + 2, none⟩ = some (.int .i64 s2) := (hc 2 (by omega)).trans rfl
        have hb1 : Below wr.heap.size wr (wr.alloc (.cells #[.int .i64 s0, .int .i64 s1, .int .i64 s2] 82)) := (Below.refl _ _).alloc (Nat.le_refl _) _
        obtain ⟨⟨k0, k1, k2⟩, -⟩ := three_c (heap_alloc_new wr (.cells #[.int .i64 s0, .int .i64 s1, .int .i64 s2] 82))
        have HO2 := Lib.hid (owns_below HOW.out hb1)
        have HG2 : Hid (w.grownBy (wr.alloc (.cells #[.int .i64 s0, .int .i64 s1, .int .i64 s2] 82)) (some g)) := grown_then HGR.out hb1
        have HCL := Lib.hid (HFJ.out _ HG2.out)
        have HKB : Hid (∀ X, Below (wr.alloc (.cells #[.int .i64 s0, .int .i64 s1, .int .i64 s2] 82)).heap.size (wr.alloc (.cells #[.int .i64 s0, .int .i64 s1, .int .i64 s2] 82)) X → X.cell? ⟨wr.heap.size, 0, none⟩ = some (.int .i64 s0) ∧ X.cell? ⟨wr.heap.size, 1, none⟩ = some (.int .i64 s1) ∧ X.cell? ⟨wr.heap.size, 2, none⟩ = some (.int .i64 s2)) := fun X hX => ⟨(hX.cell (p := ⟨wr.heap.size, 0, none⟩) (by simp)).trans k0, (hX.cell (p := ⟨wr.heap.size, 1, none⟩) (by simp)).trans k1, (hX.cell (p := ⟨wr.heap.size, 2, none⟩) (by simp)).trans k2⟩
        clear hc hb1 HFJ
        go_wp2_with fail
        rw [HKC.out, Oper.upon_enter]
        refine HCL.out.mono ?_
        rintro e w3 ⟨rfl, hb3⟩
        have HO3 := Lib.hid (owns_below HO2.out hb3)
        have HG3 : Hid (w.grownBy w3 (some g)) := grown_then HG2.out hb3
        obtain ⟨m0, m1, m2⟩ := HKB.out w3 hb3
        clear hb3 HCL HKB k0 k1 k2 c0 c1 c2 HO2 HG2
        cases pb with
        | true =>
          have HD9 := Lib.hid (HDD.out rfl)
          clear HDD HDK HSE
          go_wp2_with fail
          go_roundw
          case rel => exact ⟨i, j + 1, L, rfl, by go_num, by omega, by omega, HD9, HO3, HG3⟩
          case measure => simp [intOf]; omega
        | false =>
          have HD9 := Lib.hid (HDK.out rfl)
          have t0 := HO3.out.stored (i * 3) (.int .i64 s0)
          have t1 := t0.1.stored (i * 3 + 1) (.int .i64 s1)
          have t2 := t1.1.stored (i * 3 + 2) (.int .i64 s2)
          have f0 := HO3.out.frozenAt (i * 3)
          have f1 := t0.1.frozenAt (i * 3 + 1)
          have f2 := t1.1.frozenAt (i * 3 + 2)
          have hlc : (enC dlE L).length = N * 3 := by rw [enC_len dlE_len, hLN]
          obtain ⟨q0, hq0⟩ : ∃ x, w3.cell? ⟨g, i * 3, none⟩ = some x := ⟨_, by rw [HO3.out.cellAt _ (by omega), List.getElem?_eq_getElem (by omega)]⟩
          obtain ⟨q1, hq1⟩ : ∃ x, (w3.setCell ⟨g, i * 3, none⟩ (.int .i64 s0)).cell? ⟨g, i * 3 + 1, none⟩ = some x := ⟨_, by rw [t0.1.cellAt _ (by omega), List.getElem?_eq_getElem (by rw [List.length_set]; omega)]⟩
          obtain ⟨q2, hq2⟩ : ∃ x, ((w3.setCell ⟨g, i * 3, none⟩ (.int .i64 s0)).setCell ⟨g, i * 3 + 1, none⟩ (.int .i64 s1)).cell? ⟨g, i * 3 + 2, none⟩ = some x := ⟨_, by rw [t1.1.cellAt _ (by omega), List.getElem?_eq_getElem (by rw [List.length_set, List.length_set]; omega)]⟩
          have ho := t2.1
          rw [HSE.out] at ho
          have HO4 := Lib.hid ho
          have HG4 : Hid (w.grownBy (((w3.setCell ⟨g, i * 3, none⟩ (.int .i64 s0)).setCell ⟨g, i * 3 + 1, none⟩ (.int .i64 s1)).setCell ⟨g, i * 3 + 2, none⟩ (.int .i64 s2)) (some g)) := grown_on (grown_on (grown_on HG3.out t0.2) t1.2) t2.2
          clear HDD HDK HSE t0 t1 t2 ho hlc
          go_wp2_with fail
          go_roundw
          case rel => exact ⟨i + 1, j + 1, _, by go_num, by go_num, by omega, by omega, HD9, HO4, HG4⟩
          case measure => simp [intOf]; omega
      · have hjI : ¬ (j : Int) < (N : Int) := by omega
        have hje : j = l.length := by have := HN.out; omega
        have hda := HDA.out
        rw [hje] at hda
        have hiN : i ≤ N := by omega
        have hfil : L.take i = l.filter (fun x => !p x) := hda.done
        have hfl : (l.filter (fun x => !p x)).length = i := by rw [← hfil, List.length_take]; omega
        obtain ⟨xs', g1, g2, g3⟩ := owns_setCells (List.replicate ((N - i) * 3) (.int .i64 0)) (i * 3) wr (enC dlE L) HOW.out
        have g4 := owns_take g1 hiN (by omega)
        have hen : xs'.take (i * 3) = enC dlE (l.filter (fun x => !p x)) := by
          rw [g2, ← hfil]
          have e : enC dlE L = enC dlE (L.take i) ++ enC dlE (L.drop i) := by rw [← enC_append, List.take_append_drop]
          rw [e, List.take_append_of_le_length (by rw [enC_len dlE_len, List.length_take]; omega), List.take_of_length_le (by rw [enC_len dlE_len, List.length_take]; omega)]
        rw [hen] at g4
        have HRES : Hid ((wr.setCells g (i * 3) (List.replicate ((N - i) * 3) (.int .i64 0))).ownsRow B E 3 (.slice (some ⟨g, 0, none⟩) i cap) (l.filter (fun x => !p x)).length (enC dlE (l.filter (fun x => !p x)))) := by show World.ownsRow _ _ _ _ _ _ _; rw [hfl]; exact g4
        have HGF : Hid (w.grownBy (wr.setCells g (i * 3) (List.replicate ((N - i) * 3) (.int .i64 0))) (some g)) := grown_on HGR.out g3
        have hcl : ∀ ty, (Builtin.clear_ #[57] ty #[.slice (some ⟨g, i * 3, none⟩) (N - i) (cap - i)]).run Try.prog wr = .ok (.tuple #[]) (wr.setCells g (i * 3) (List.replicate ((N - i) * 3) (.int .i64 0))) := fun ty =>
          run_clear_k wr _ _ ty (.agg #[.int .i64 0, .int .i64 0, .int .i64 0]) (.int .i64 0) 3 (by omega) Try.underlying57 Try.zeroValue82 rfl rfl g (i * 3) (N - i) (cap - i)
            (fun q hq => by rw [HOW.out.cellAt _ (by omega), List.getElem?_eq_getElem (by rw [enC_len dlE_len, hLN]; omega)]; rfl) (fun q hq => HOW.out.frozenAt _)
        have hi0 : (0 : Int) ≤ (i : Int) := by omega
        have hiNI : (i : Int) ≤ (N : Int) := by omega
        have hiC : (i : Int) ≤ (cap : Int) := by omega
        clear g1 g2 g3 g4 hen hfil hfl hda hje HDA
        go_wp2_with fail
        go_ret
        exact ⟨_, rfl, HRES.out, HGF.out, .inr rfl⟩

set_option maxHeartbeats 1000000 in
set_option maxRecDepth 100000 in
/-- sorted at deliveries, in general: a permutation of those up to the day. -/
theorem sortedDelG (B E : Nat) (v : Value) (l : List Dl) (u : Int) (w : World) (hown : w.ownsRow B E 3 v l.length (enC dlE l)) (hl : l.length ≤ 19) :
    Calls Try.prog 47 #[v, .int .i64 u, .func (.func 48) #[] #[]] w fun e w' => ∃ v', e = .returned v' ∧ ∃ l', l'.Perm (l.filter (fun x => !decide (u < x.day))) ∧ w'.ownsRow B E 3 v' l'.length (enC dlE l') ∧ w.grownBy w' v.ownBlock := by
  obtain ⟨W0, hW0⟩ : ∃ W0, W0 = (w.alloc (.cells #[.int .i64 u] 3)).alloc (.cells #[.func (.func 48) #[] #[]] 84) := ⟨_, rfl⟩
  obtain ⟨U, hU⟩ : ∃ U, U = w.heap.size := ⟨_, rfl⟩
  have hb0 : Below w.heap.size w W0 := by rw [hW0]; exact ((Below.refl _ _).alloc (Nat.le_refl _) _).alloc (by simp) _
  have cU : W0.cell? ⟨U, 0, none⟩ = some (.int .i64 u) := by
    rw [hW0, hU]
    exact (((Below.refl (w.alloc (.cells #[.int .i64 u] 3)).heap.size _).alloc (Nat.le_refl _) _).cell (p := ⟨w.heap.size, 0, none⟩) (by simp)).trans ((cells_alloc w #[.int .i64 u] 3 0).trans rfl)
  have cF : W0.cell? ⟨U + 1, 0, none⟩ = some (.func (.func 48) #[] #[]) := by
    have h := cells_alloc (w.alloc (.cells #[.int .i64 u] 3)) #[.func (.func 48) #[] #[]] 84 0
    rw [World.size_alloc] at h
    rw [hW0, hU]
    exact h.trans rfl
  have hFlt : U + 1 < W0.heap.size := by rw [hW0, hU]; simp
  have ho0 := owns_below hown hb0
  have hne : v.ownBlock ≠ some (U + 1) := fun e => by have := (hown.lt _ e).2; omega
  have hne2 : v.ownBlock ≠ some U := fun e => by have := (hown.lt _ e).2; omega
  have hkeep : ∀ W, W0.grownBy W v.ownBlock → W.cell? ⟨U + 1, 0, none⟩ = some (.func (.func 48) #[] #[]) ∧ W.cell? ⟨U, 0, none⟩ = some (.int .i64 u) := fun W hW =>
    ⟨(World.cell?_of_block (hW.block (U + 1) hFlt (fun e => hne e.symm))).trans cF, (World.cell?_of_block (hW.block U (by omega) (fun e => hne2 e.symm))).trans cU⟩
  have HD := Lib.hid (delDelG B E l (fun x => decide (u < x.day)) 69 #[.pointer (some ⟨U + 1, 0, none⟩), .pointer (some ⟨U, 0, none⟩)] v W0 ho0 (by omega) canDelDel
    (fun x W hW => delDel x u (U + 1) U W (hkeep W hW).1 (hkeep W hW).2))
  have hfl : (l.filter (fun x => !decide (u < x.day))).length ≤ 19 := Nat.le_trans (List.length_filter_le _ _) hl
  have HS : Hid (∀ (W : World) (v' : Value), W0.grownBy W v.ownBlock → (v'.ownBlock = none ∨ v'.ownBlock = v.ownBlock) → W.ownsRow B E 3 v' (l.filter (fun x => !decide (u < x.day))).length (enC dlE (l.filter (fun x => !decide (u < x.day)))) → Calls Try.prog 70 #[v', .func (.func 71) #[] #[.pointer (some ⟨U + 1, 0, none⟩)]] W fun e w' => e = .returned (.tuple #[]) ∧ ∃ l', l'.Perm (l.filter (fun x => !decide (u < x.day))) ∧ w'.ownsRow B E 3 v' l'.length (enC dlE l') ∧ W.grownBy w' v'.ownBlock) := fun W v' hW hv' ho =>
    sortDel (U + 1) B E v' _ W ho hfl (hkeep W hW).1 (by rcases hv' with h | h; rw [h]; intro e; cases e; rw [h]; exact hne)
  have HB0 : Hid (∀ W, W0.grownBy W v.ownBlock → w.grownBy W v.ownBlock) := fun W hW => grown_behind hb0 hW
  have HW0 := Lib.hid hW0
  have HU := Lib.hid hU
  obtain ⟨a, cap, rfl, -, -⟩ := owns_slice hown
  generalize l.filter (fun x => !decide (u < x.day)) = M at *
  clear hown hW0 hU hb0 cU cF hFlt ho0 hne hne2 hkeep hfl
  go_enter Try.func47, Try.ntmps47
  go_wp2_with fail
  rw [← HW0.out, ← HU.out]
  refine HD.out.mono ?_
  rintro e w1 ⟨v', rfl, ho1, hg1, hv1⟩
  have HS1 := Lib.hid (HS.out w1 v' hg1 hv1 ho1)
  have HB1 := Lib.hid (HB0.out w1 hg1)
  have HV1 : Hid (∀ X, w1.grownBy X v'.ownBlock → w1.grownBy X (Value.slice a l.length cap).ownBlock) := fun X hX => by
    rcases hv1 with h | h
    · rw [h] at hX; exact grown_more hX
    · rw [h] at hX; exact hX
  obtain ⟨a', cap', rfl, -, -⟩ := owns_slice ho1
  clear ho1 hg1 hv1 HD HS HB0
  go_wp2_with fail
  refine HS1.out.mono ?_
  rintro e w2 ⟨rfl, l', hp, ho, hg⟩
  have HR : Hid (∃ l', l'.Perm M ∧ w2.ownsRow B E 3 (.slice a' M.length cap') l'.length (enC dlE l') ∧ w.grownBy w2 (Value.slice a l.length cap).ownBlock) := ⟨l', hp, ho, grown_on HB1.out (HV1.out _ hg)⟩
  clear hp ho hg HS1 HV1
  go_wp2_with fail
  go_ret
  exact ⟨_, rfl, HR.out⟩

end Go.Proofs.Ytbiedadgejgnoaa
