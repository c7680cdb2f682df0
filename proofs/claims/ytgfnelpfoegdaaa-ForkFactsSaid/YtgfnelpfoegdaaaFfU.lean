/-
  facts.At.
-/
import Derived.Test.YtgfnelpfoegdaaaFfT
import Derived.Test.YtgfnelpfoegdaaaFfE
namespace Go.Proofs.Ytgfnelpfoegdaaa
open Go.RowKit Go.Maps

abbrev VsMap (w : World) (b n : Nat) (D : DataW Vs) : Prop := w.ownsMap Try.prog 3 vR b n D
def mkVs (x : Vs) : Value := .agg #[.int .i64 x.op, .bool false, .int .i64 x.f.ent, .string x.f.kind, .int .i64 x.f.day, .int .i64 x.f.by_, .int .i64 x.f.to_, .int .i64 x.f.amt]
theorem vR_mk' (x : Vs) : vR (mkVs x) = some (.held x, []) := vR_mk x
theorem infoFcB : ∃ z, (Try.prog.info? 72).map (fun i => (i.zero, i.size, i.bytes)) = some (some z, 6, 56) ∧ z.cells.size = 6 := by
  have hi3 : (Try.prog.info? 72).map (fun i => (i.zero.map (·.cells.size), i.size, i.bytes)) = some (some 6, 6, 56) := by kernel_rfl
  cases hq : Try.prog.info? 72 with
  | none => rw [hq] at hi3; cases hi3
  | some i =>
    rw [hq] at hi3
    simp only [Option.map_some, Option.some.injEq, Prod.mk.injEq] at hi3
    obtain ⟨hz, hsz, hby⟩ := hi3
    cases hz1 : i.zero with
    | none => rw [hz1] at hz; cases hz
    | some z =>
      rw [hz1] at hz
      simp only [Option.map_some, Option.some.injEq] at hz
      exact ⟨z, by simp [hz1, hsz, hby], hz⟩

theorem owns_type {w : World} {B e s n : Nat} {v : Value} {xs : List Value} (h : w.ownsRow B e s v n xs) {k : Nat} (hk : v.ownBlock = some k) : ∃ cur fr, w.heap[k]? = some (.cells cur e fr) := by
  rcases h.2 with ⟨rfl, rfl⟩ | ⟨g, cap, cur, rfl, _, hg, _⟩
  · simp [Value.ownBlock] at hk
  · simp only [Value.ownBlock, Option.some.injEq] at hk
    subst hk
    exact ⟨cur, _, hg⟩
theorem row_apart {w : World} {B e s n b r m cnt : Nat} {v : Value} {xs : List Value} {D : DataW Vs} {left : Lit → Bool} (h : w.ownsRow B e s v n xs) (hr : w.ranges Try.prog 3 vR b r m D left cnt) : some b ≠ v.ownBlock ∧ some r ≠ v.ownBlock := by
  obtain ⟨es, clock, since, seen, c0, hb, _, _, _, hr1, _⟩ := hr
  refine ⟨fun he => ?_, fun he => ?_⟩
  · obtain ⟨cur, fr, h1⟩ := owns_type h he.symm
    rw [hb] at h1
    cases h1
  · obtain ⟨cur, fr, h1⟩ := owns_type h he.symm
    rw [hr1] at h1
    cases h1
theorem invK (key : Value) (kl : Lit) (h : keyOf Try.prog 3 key = some kl) : ∃ x, key = Value.int .i64 x := by
  obtain ⟨x, rfl, -, -⟩ := Maps.keyOf_int_inv Try.underlying3 h
  exact ⟨x, rfl⟩
theorem invV (v : Value) (y : DataW Vs × List MemPlace) (h : vR v = some y) : ∃ c, v = mkVs c := by
  obtain ⟨x, rfl, -⟩ := vR_inv h
  exact ⟨x, rfl⟩

set_option maxHeartbeats 2000000 in
set_option maxRecDepth 100000 in
theorem at_any (l : List Vs) (v : Value) (op : Int) (w : World) (hv : IsVss w v l) (ho : ∀ i (h : i < l.length), 0 ≤ l[i].f.ent ∧ l[i].f.ent < 6) (hl : l.length ≤ 65536) :
    Calls Try.prog 39 #[v, .int .i64 op] w fun e w' => ∃ v', e = .returned v' ∧ ∃ fs, IsFcs w' v' fs ∧ AtSpec (knownD op l) fs ∧ Below w.heap.size w w' := by
  obtain ⟨a, cap, rfl, hmx, hcap, hc⟩ := hv.open
  have HC := Lib.hid hc
  have HOK := Lib.hid ho
  have HKN : Hid (KnowOk (knownD op l)) := knownD_ok op l fun x hx => by
    obtain ⟨i, hi, rfl⟩ := List.mem_iff_getElem.1 hx
    exact ho i hi
  have HM0 : Hid (VsMap (w.alloc (.map #[] 0)) w.heap.size 0 (knownD op (l.take 0))) := World.ownsMap_made _ _ _ _
  have hmm := @run_makeMap Try.prog
  clear hv hc ho
  go_enter Try.func39, Try.ntmps39
  go_wp2_with fail
  go_loopw [14] (fun i wr => ∃ (k : Nat), i = .int .i64 k ∧ k ≤ l.length ∧ Hid (VsMap wr w.heap.size k (knownD op (l.take k))) ∧ w.heap.size ≤ wr.heap.size ∧ Hid (Below w.heap.size w wr)) (fun i _ => l.length + 1 - (intOf i).toNat)
  case atStart => exact ⟨0, rfl, by omega, HM0, by simp, Lib.hid ((Below.refl _ _).alloc (Nat.le_refl _) _)⟩
  case round =>
    obtain ⟨k, rfl, hkl, HO, hsw, HB⟩ := hrel
    by_cases hlt : (k : Int) < (l.length : Int)
    · have hkn : k < l.length := by omega
      obtain ⟨bb, off, rfl, hbb, hr0⟩ := HC.out k hkn
      have hr1 := range_below' hr0 HB.out hbb
      have hent := HOK.out k hkn
      have hsn : knownD op (l.take (k + 1)) = if l[k].op ≤ op then (knownD op (l.take k)).put (kI l[k].f.ent) (.held l[k]) else knownD op (l.take k) := by
        rw [List.take_succ_eq_append_getElem hkn, knownD_snoc]
      obtain ⟨x, hx⟩ : ∃ x, l[k] = x := ⟨_, rfl⟩
      rw [hx] at hr1 hent hsn
      obtain ⟨vo, f0, f1, f2, f3, f4, f5⟩ := x
      unfold vsE at hr1
      simp only at hr1 hent hsn
      have HSN := Lib.hid hsn
      have HR1 := Lib.hid hr1
      have HF0 : Hid ((Lit.int .i64 f0).wf = true) := int_wf (by unfold I64; omega)
      obtain ⟨W1, hW1⟩ : ∃ W, W = wr.alloc (.cells #[.int .i64 vo, .bool false, .int .i64 f0, .string f1, .int .i64 f2, .int .i64 f3, .int .i64 f4, .int .i64 f5] 75) := ⟨_, rfl⟩
      have hD1 : VsMap W1 w.heap.size k (knownD op (l.take k)) := by rw [hW1]; exact HO.out.alloc _
      have hB1 : Below w.heap.size w W1 := by rw [hW1]; exact Below.to HB.out ((Below.refl _ _).alloc (Nat.le_refl _) _) HB.out.size
      have HD1 := Lib.hid hD1
      have HB1 := Lib.hid hB1
      have HW1 := Lib.hid hW1
      have hsm : k < maxLen := by unfold maxLen; omega
      clear hr1 hr0 hx hsn hW1 hD1 hB1
      by_cases hop : vo ≤ op
      · go_wp2_with
          (first
            | (refine wpList_load_mid rfl 75 _ rfl bb (off + k * 8) rfl [.int .i64 vo, .bool false, .int .i64 f0, .string f1, .int .i64 f2, .int .i64 f3, .int .i64 f4, .int .i64 f5] _ HR1.out Try.underlying75 rfl (by rw [infoVs]; rfl) ?_)
            | (at_mapUpdate; rw [← HW1.out]; refine wpList_mapUpdate_own _ rfl _ _ _ 80 rfl 3 75 kInt Try.underlying80 _ w.heap.size k _ rfl HD1.out hsm _ _ _ rfl rfl (keyOf_int_mk Try.underlying3 HF0.out) _ [] (vR_mk' ⟨vo, f0, f1, f2, f3, f4, f5⟩) ?_))
        intro w2 hD2 hg2
        have HD2 : Hid (VsMap w2 w.heap.size (k + 1) (knownD op (l.take (k + 1)))) := by
          show VsMap _ _ _ _
          rw [HSN.out, if_pos hop]
          exact hD2
        have HB2 := Lib.hid (HB1.out.grown hg2 HB1.out.size (fun j hj => by simp only [Option.some.injEq] at hj; omega))
        clear hD2 hg2 HD1 HSN HR1
        go_wp2_with fail
        go_roundw
        case rel => exact ⟨k + 1, by go_num, by omega, HD2, HB2.out.size, HB2⟩
        case measure => simp [intOf]; omega
      · have HD2 : Hid (VsMap W1 w.heap.size (k + 1) (knownD op (l.take (k + 1)))) := by
          show VsMap _ _ _ _
          rw [HSN.out, if_neg hop]
          exact HD1.out.mono (by omega)
        go_wp2_with
          (refine wpList_load_mid rfl 75 _ rfl bb (off + k * 8) rfl [.int .i64 vo, .bool false, .int .i64 f0, .string f1, .int .i64 f2, .int .i64 f3, .int .i64 f4, .int .i64 f5] _ HR1.out Try.underlying75 rfl (by rw [infoVs]; rfl) ?_)
        go_roundw
        case rel => rw [← HW1.out]; exact ⟨k + 1, by go_num, by omega, HD2, HB1.out.size, HB1⟩
        case measure => simp [intOf]; omega
    · have hke : k = l.length := by omega
      subst hke
      have HO2 : Hid (VsMap wr w.heap.size l.length (knownD op l)) := by
        have h := HO.out
        rw [List.take_length] at h
        exact h
      obtain ⟨D, hD⟩ : ∃ D, knownD op l = D := ⟨_, rfl⟩
      rw [hD] at HO2 HKN
      have HDD := Lib.hid hD
      obtain ⟨zb, hzb, hzc⟩ := infoFcB
      clear HO hD HC HOK
      go_wp2_with (at_range; refine wpList_range_own _ rfl _ 80 rfl 3 75 kInt Try.underlying80 _ w.heap.size l.length D rfl HO2.out ?_)
      intro w0 hrg0 hg0 hs0
      obtain ⟨RI, hRI⟩ : ∃ R, R = wr.heap.size := ⟨_, rfl⟩
      rw [← hRI] at hrg0 hs0 ⊢
      have HB0 : Hid (Below w.heap.size w w0) := HB.out.grown hg0 HB.out.size (fun j hj => by cases hj)
      have HRG0 := Lib.hid hrg0
      have hRw : w.heap.size < RI := by rw [hRI]; exact HO2.out.lt
      clear hg0 hRI HB hsw hrg0 HO2
      go_wp2_with fail
      go_loopw [8, 10, 30, 31, 32, 33, 34, 35, 36, 37, 38, 39, 40, 41] (fun o _ _ _ _ _ _ _ _ _ _ _ _ _ wr2 => ∃ left cnt ks fs, Hid (wr2.ranges Try.prog 3 vR w.heap.size RI l.length D left cnt) ∧ Hid (Got D left ks fs) ∧ Hid (wr2.ownsRow w.heap.size 72 6 o fs.length (enC fcE fs)) ∧ w.heap.size ≤ wr2.heap.size ∧ Hid (Below w.heap.size w wr2)) (fun _ _ _ _ _ _ _ _ _ _ _ _ _ _ wr2 => wr2.rangeLeft w.heap.size RI)
      case atStart => exact ⟨_, _, [], [], HRG0, Got.start D, World.ownsRow_nil _ _ _ _, HB0.out.size, HB0⟩
      case round =>
        obtain ⟨left, cnt, ks, fs, HRG, HGT, HO, hsz, HB⟩ := hrel
        have hfl : fs.length ≤ 6 := HGT.out.len HKN.out
        go_wp2_with (at_next; refine wpList_next_ranges _ rfl _ rfl 3 kInt vR (Value.int .i64) mkVs invK invV w.heap.size RI l.length D left cnt rfl HRG.out ?_ ?_)
        · intro hc0 hl0
          have HSO := Lib.hid (sortFc w.heap.size 72 u8 fs wr HO.out (by omega))
          have HL0 := Lib.hid hl0
          clear hc0 hl0
          go_wp2_with fail
          refine HSO.out.mono ?_
          rintro e w2 ⟨rfl, l', hp, hs, ho, hg⟩
          have hle : fs.length = l'.length := hp.length_eq.symm
          have HF : Hid (IsFcs w2 u8 l' ∧ AtSpec (knownD op l) l' ∧ Below w.heap.size w w2) := by
            refine ⟨?_, ?_, HB.out.grown hg HB.out.size (fun j hj => (HO.out.lt j hj).1)⟩
            · show Rd _ _ _ _ _
              rw [← hle]
              exact Rd.of_owns ho
            · rw [HDD.out]
              exact HGT.out.done HL0.out hp hs
          clear hp hs ho hg hle HSO HO HRG HGT
          go_wp2_with fail
          go_ret
          exact ⟨_, rfl, l', HF.out.1, HF.out.2.1, HF.out.2.2⟩
        · intro x c kl y1 y2 w1 cnt1 hkey hlk hRc hat hrg1 hlt1 hg1 hs1 hen
          have hkl : kl = kI x := by
            obtain ⟨x2, e1, e2, -⟩ := Maps.keyOf_int_inv Try.underlying3 hkey
            injection e1 with _ e1
            rw [e2, ← e1]
            rfl
          subst hkl
          have hy1 : y1 = .held c := by
            rw [vR_mk' c] at hRc
            injection hRc with hRc
            injection hRc with hRc
            exact hRc.symm
          subst hy1
          have HG2 := Lib.hid (HGT.out.step HKN.out hlk hat)
          have hap := row_apart HO.out HRG.out
          have HO1 : Hid (w1.ownsRow w.heap.size 72 6 u8 fs.length (enC fcE fs)) := HO.out.kept hg1 (Or.inr fun he => hap.2 he.symm)
          have HB1 : Hid (Below w.heap.size w w1) := HB.out.grown hg1 HB.out.size (fun j hj => by simp only [Option.some.injEq] at hj; omega)
          obtain ⟨vo, f0, f1, f2, f3, f4, f5⟩ := c
          unfold mkVs at hen ⊢
          simp only at hen HG2 ⊢
          obtain ⟨Q, hQ⟩ : ∃ Q, Q = w1.heap.size := ⟨_, rfl⟩
          obtain ⟨W2, hW2⟩ : ∃ W, W = w1.alloc (.cells #[.int .i64 vo, .bool false, .int .i64 f0, .string f1, .int .i64 f2, .int .i64 f3, .int .i64 f4, .int .i64 f5] 75) := ⟨_, rfl⟩
          have hrow : W2.heap[Q]? = some (.cells #[.int .i64 vo, .bool false, .int .i64 f0, .string f1, .int .i64 f2, .int .i64 f3, .int .i64 f4, .int .i64 f5] 75 (0, 0)) := by rw [hW2, hQ]; exact alloc_new _ _
          have hrng : W2.rangeAt Q 2 [.int .i64 f0, .string f1, .int .i64 f2, .int .i64 f3, .int .i64 f4, .int .i64 f5] := fun j v hv => by
            have hj : j < 6 := (List.getElem?_eq_some_iff.1 hv).1
            have h2 : (#[.int .i64 vo, .bool false, .int .i64 f0, .string f1, .int .i64 f2, .int .i64 f3, .int .i64 f4, .int .i64 f5] : Array Value)[2 + j]? = some v := by
              match j, hj with
              | 0, _ => exact hv
              | 1, _ => exact hv
              | 2, _ => exact hv
              | 3, _ => exact hv
              | 4, _ => exact hv
              | 5, _ => exact hv
            simp [World.cell?, hrow, h2]
          have c1 : W2.cell? ⟨Q, 1, none⟩ = some (.bool false) := by simp [World.cell?, hrow]
          have hb2 : Below w1.heap.size w1 W2 := by rw [hW2]; exact (Below.refl _ _).alloc (Nat.le_refl _) _
          have hb3 : Below w1.heap.size w1 (W2.alloc (.cells #[.int .i64 f0, .string f1, .int .i64 f2, .int .i64 f3, .int .i64 f4, .int .i64 f5] 72)) := hb2.trans (((Below.refl W2.heap.size W2).alloc (Nat.le_refl _) _).mono hb2.size)
          have HO3 : Hid ((W2.alloc (.cells #[.int .i64 f0, .string f1, .int .i64 f2, .int .i64 f3, .int .i64 f4, .int .i64 f5] 72)).ownsRow w.heap.size 72 6 u8 fs.length (enC fcE fs)) := owns_below HO1.out hb3
          have HB3 : Hid (Below w.heap.size w (W2.alloc (.cells #[.int .i64 f0, .string f1, .int .i64 f2, .int .i64 f3, .int .i64 f4, .int .i64 f5] 72))) := Below.to HB1.out hb3 HB1.out.size
          have HRG3 : Hid ((W2.alloc (.cells #[.int .i64 f0, .string f1, .int .i64 f2, .int .i64 f3, .int .i64 f4, .int .i64 f5] 72)).ranges Try.prog 3 vR w.heap.size RI l.length D (fun z => left z && !z.sameKey (kI x)) cnt1) := by
            show World.ranges _ _ _ _ _ _ _ _ _ _
            rw [hW2]
            exact (hrg1.alloc _).alloc _
          have HS3 : Hid (Rd (W2.alloc (.cells #[.int .i64 f0, .string f1, .int .i64 f2, .int .i64 f3, .int .i64 f4, .int .i64 f5] 72)) (.slice (some ⟨W2.heap.size, 0, none⟩) 1 1) 6 1 [.int .i64 f0, .string f1, .int .i64 f2, .int .i64 f3, .int .i64 f4, .int .i64 f5]) := Rd.lit W2 #[.int .i64 f0, .string f1, .int .i64 f2, .int .i64 f3, .int .i64 f4, .int .i64 f5] 72 6 1 rfl (by unfold maxLen; omega)
          have HQ := Lib.hid hQ
          have HW2 := Lib.hid hW2
          have HRN := Lib.hid hrng
          have HLT := Lib.hid hlt1
          have HHR := Lib.hid HRG.out.left_eq
          rw [hW2, hQ] at c1
          clear hkey hlk hRc hat hrg1 hlt1 hg1 hs1 hap hQ hW2 hrow hrng hb2 hb3 HRG HGT HO HB1 HO1
          go_wp2_with
            (first
              | (rw [← HW2.out, ← HQ.out]; refine wpList_load_mid rfl 72 _ rfl Q 2 rfl [.int .i64 f0, .string f1, .int .i64 f2, .int .i64 f3, .int .i64 f4, .int .i64 f5] _ HRN.out Try.underlying72 rfl (by rw [infoFc]; rfl) ?_)
              | (at_builtin; refine wpList_append_rd rfl _ _ 55 rfl w.heap.size 72 zb 6 56 Try.underlying55 hzb hzc (by decide) u8 fs.length (enC fcE fs) rfl HO3.out _ 1 [.int .i64 f0, .string f1, .int .i64 f2, .int .i64 f3, .int .i64 f4, .int .i64 f5] rfl HS3.out ?one ?b1 ?b2 ?b3 ?_))
          case one => exact fcE_one ⟨f0, f1, f2, f3, f4, f5⟩
          case b1 => unfold maxLen; omega
          case b2 => omega
          case b3 => exact HB3.out.size
          intro v6 w6 hown6 hg6
          have hap3 := row_apart HO3.out HRG3.out
          have HRG6 := Lib.hid (HRG3.out.kept hg6 hap3.1 hap3.2)
          have HO6 : Hid (w6.ownsRow w.heap.size 72 6 v6 (fs ++ [(⟨f0, f1, f2, f3, f4, f5⟩ : Fc)]).length (enC fcE (fs ++ [⟨f0, f1, f2, f3, f4, f5⟩]))) := by
            show World.ownsRow _ _ _ _ _ _ _
            rw [List.length_append, List.length_singleton, enC_append, enC_single]
            exact hown6
          have HB6 := Lib.hid (below_append HB3.out HO3.out hg6 HB3.out.size)
          clear hown6 hg6 hap3 HO3 HRG3 HB3 HS3 HRN
          go_wp2_with fail
          go_roundw
          case rel => exact ⟨_, cnt1, ks ++ [x], fs ++ [(⟨f0, f1, f2, f3, f4, f5⟩ : Fc)], HRG6, HG2, HO6, HB6.out.size, HB6⟩
          case measure => rw [HRG6.out.left_eq, HHR.out]; exact HLT.out

end Go.Proofs.Ytgfnelpfoegdaaa
