/-
  The law ServiceTruth: its walk.
-/
import Derived.Test.YtdhiefgbajogcaaVTx
import Derived.Test.YtdhiefgbajogcaaCr9
namespace Go.Proofs.Ytdhiefgbajogcaa
open Go.RowKit

theorem infoPap : (Try.prog.info? 63).map (fun i => (i.zero, i.size, i.bytes)) = some (some (.agg #[.int .i64 0, .int .i64 0, .int .i64 0, .int .i64 0]), 4, 32) := by kernel_rfl
theorem infoWay : (Try.prog.info? 66).map (fun i => (i.zero, i.size, i.bytes)) = some (some (.agg #[.int .i64 0, .int .i64 0, .int .i64 0, .int .i64 0]), 4, 32) := by kernel_rfl

theorem spCells_set1 (l : List (Int × Int)) (i : Nat) (hi : i < l.length) (v : Int) : (spCells l).set (i * 2 + 1) (.int .i64 v) = spCells (l.set i (l[i].1, v)) := by
  have hr : ∀ r ∈ l.map spRow, r.length = 2 := fun r hr => by
    obtain ⟨x, -, rfl⟩ := List.mem_map.1 hr
    rfl
  rw [spCells, flat_set 2 _ _ i 1 (by simpa using hi) hr (by omega), List.getElem_map]
  show _ = ((l.set i (l[i].1, v)).map spRow).flatten
  rw [List.map_set]
  rfl

/-- The call's own rows while the papers are made. -/
structure TruB (X W : World) (v1 v2 vp vw : Value) (n : Nat) (cl : List (Int × Int)) (ats : List At) (us : List Value) (days : List Int) (k : Nat) : Prop where
  cars : W.ownsRow X.heap.size 53 2 v1 n (spCells cl)
  len : us.length = ats.length
  row : W.ownsRow X.heap.size 29 5 v2 ats.length (atCells ats us)
  nils : ∀ (i : Nat) (h : i < us.length), i < k → us[i] = .slice none 0 0
  pap : W.ownsRow X.heap.size 63 4 vp k (rtCells (papL ats k))
  way : W.ownsRow X.heap.size 66 4 vw k (rtCells (wyL days k))
  bel : Below X.heap.size X W

theorem IsAts.sl5 {w : World} {v : Value} {l : List At} (h : IsAts w v l) : ∃ a n c, v = .slice a n c := by
  obtain ⟨a, c, rfl, -⟩ := h.open
  exact ⟨a, _, c, rfl⟩
theorem atRows_strip : ∀ (l : List At) (us : List Value), atRows (l.map (fun a => ⟨a.ent, a.par, a.car, a.sent, []⟩)) us = atRows l us
  | [], us => by cases us <;> rfl
  | a :: l, [] => rfl
  | a :: l, u :: us => by
    show atRow _ u :: atRows (l.map _) us = atRow a u :: atRows l us
    rw [atRows_strip l us]
    rfl
theorem at0_map (ats : List At) : (List.range ats.length).map (at0F ats) = ats.map (fun a => ⟨a.ent, a.par, a.car, a.sent, []⟩) := by
  apply List.ext_getElem
  · simp
  · intro i h1 h2
    simp only [List.getElem_map, List.getElem_range]
    have hi : i < ats.length := by simpa using h1
    have e : atG ats i = ats[i] := by unfold atG; rw [List.getD_eq_getElem?_getD, List.getElem?_eq_getElem hi]; rfl
    unfold at0F
    rw [e]
theorem TruB.ats {X W : World} {v1 v2 vp vw : Value} {n : Nat} {cl : List (Int × Int)} {ats : List At} {us : List Value} {days : List Int} (h : TruB X W v1 v2 vp vw n cl ats us days ats.length) : IsAts W v2 ((List.range ats.length).map (at0F ats)) := by
  have hl : ((List.range ats.length).map (at0F ats)).length = ats.length := by simp
  refine ⟨us, by rw [hl]; exact h.len, ?_, fun i hi hi' => ?_⟩
  · have hr := Rd.of_owns h.row
    have e : atCells ((List.range ats.length).map (at0F ats)) us = atCells ats us := by unfold atCells; rw [at0_map, atRows_strip]
    rw [e, hl]
    exact hr
  · rw [h.nils i hi' (by rw [← h.len]; exact hi')]
    have e : ((List.range ats.length).map (at0F ats))[i].own = [] := by simp [at0F]
    rw [e]
    exact IsRts.nil _ _ _
theorem TruB.below {X W W' : World} {v1 v2 vp vw : Value} {n k : Nat} {cl : List (Int × Int)} {ats : List At} {us : List Value} {days : List Int} (h : TruB X W v1 v2 vp vw n cl ats us days k) (hb : Below W.heap.size W W') : TruB X W' v1 v2 vp vw n cl ats us days k :=
  ⟨owns_below h.cars hb, h.len, owns_below h.row hb, h.nils, owns_below h.pap hb, owns_below h.way hb, Below.to h.bel hb h.bel.size⟩
/-- One paper and one way more. -/
structure TruC (X W : World) (v1 v2 vp vw : Value) (n : Nat) (cl : List (Int × Int)) (ats : List At) (us : List Value) (days : List Int) (k : Nat) : Prop where
  cars : W.ownsRow X.heap.size 53 2 v1 n (spCells cl)
  row : W.ownsRow X.heap.size 29 5 v2 ats.length (atCells ats us)
  pap : W.ownsRow X.heap.size 63 4 vp (k + 1) (rtCells (papL ats (k + 1)))
  way : W.ownsRow X.heap.size 66 4 vw k (rtCells (wyL days k))
  bel : Below X.heap.size X W
theorem TruC.below {X W W' : World} {v1 v2 vp vw : Value} {n k : Nat} {cl : List (Int × Int)} {ats : List At} {us : List Value} {days : List Int} (h : TruC X W v1 v2 vp vw n cl ats us days k) (hb : Below W.heap.size W W') : TruC X W' v1 v2 vp vw n cl ats us days k :=
  ⟨owns_below h.cars hb, owns_below h.row hb, owns_below h.pap hb, owns_below h.way hb, Below.to h.bel hb h.bel.size⟩
theorem TruB.pap1 {X W W' : World} {v1 v2 vp vp' vw : Value} {n k : Nat} {cl : List (Int × Int)} {ats : List At} {us : List Value} {days : List Int} {x : Ret} (h : TruB X W v1 v2 vp vw n cl ats us days k) (hx : rtCells (papL ats (k + 1)) = rtCells (papL ats k) ++ rtRow x)
    (hv : W'.ownsRow X.heap.size 63 4 vp' (k + 1) (rtCells (papL ats k) ++ rtRow x)) (hg : W.grownBy W' vp.ownBlock) : TruC X W' v1 v2 vp' vw n cl ats us days k :=
  ⟨h.cars.kept hg (owns_apart h.cars h.pap (by decide)), h.row.kept hg (owns_apart h.row h.pap (by decide)), by rw [hx]; exact hv, h.way.kept hg (owns_apart h.way h.pap (by decide)), below_append h.bel h.pap hg h.bel.size⟩
theorem TruC.way1 {X W W' : World} {v1 v2 vp vw vw' : Value} {n k : Nat} {cl : List (Int × Int)} {ats : List At} {us : List Value} {days : List Int} {x : Ret} (h : TruC X W v1 v2 vp vw n cl ats us days k) (hl : us.length = ats.length) (hn : ∀ (i : Nat) (h : i < us.length), i < k + 1 → us[i] = .slice none 0 0)
    (hx : rtCells (wyL days (k + 1)) = rtCells (wyL days k) ++ rtRow x)
    (hv : W'.ownsRow X.heap.size 66 4 vw' (k + 1) (rtCells (wyL days k) ++ rtRow x)) (hg : W.grownBy W' vw.ownBlock) : TruB X W' v1 v2 vp vw' n cl ats us days (k + 1) :=
  ⟨h.cars.kept hg (owns_apart h.cars h.way (by decide)), hl, h.row.kept hg (owns_apart h.row h.way (by decide)), hn, h.pap.kept hg (owns_apart h.pap h.way (by decide)), by rw [hx]; exact hv, below_append h.bel h.way hg h.bel.size⟩

set_option maxHeartbeats 8000000 in
set_option maxRecDepth 100000 in
theorem serviceTruth_any (c l m : List Int) (v u q : Value) (en pa : Int) (w : World) (hx : IsInts w v c) (hc : ∀ x ∈ c, I64 x) (hy : IsInts w u l) (hl : ∀ x ∈ l, I64 x) (he : I64 en) (hp : I64 pa) (hq : IsInts w q m) (hm : ∀ x ∈ m, I64 x) :
    Calls Try.prog 11 #[.agg #[v, u, .int .i64 en, .int .i64 pa], q] w fun e w' => e = .returned (.bool true) ∧ Below w.heap.size w w' := by
  obtain ⟨a1, c1, rfl, -, -, -⟩ := hx.open
  obtain ⟨a2, c2, rfl, -, -, -⟩ := hy.open
  obtain ⟨qa, qc, rfl, -, -, -⟩ := hq.open
  obtain ⟨W0, hW0⟩ : ∃ W0, W0 = w.alloc (.cells #[.slice a1 c.length c1, .slice a2 l.length c2, .int .i64 en, .int .i64 pa] 35) := ⟨_, rfl⟩
  obtain ⟨P, hP⟩ : ∃ P, P = w.heap.size := ⟨_, rfl⟩
  have FP : Hid (CaseAt W0 P (.slice a1 c.length c1) (.slice a2 l.length c2) en pa) := by show CaseAt _ _ _ _ _ _; rw [hW0, hP]; exact CaseAt.new _ _ _ _ _
  have hb0 : Below w.heap.size w W0 := by rw [hW0]; exact (Below.refl _ _).alloc (Nat.le_refl _) _
  have HB0 := Lib.hid hb0
  have HQ := Lib.hid (hq.below hb0)
  have HM := Lib.hid hm
  have HMA := Lib.hid (made21o c l _ _ en pa W0 (hx.below hb0) hc (hy.below hb0) hl)
  have HNE : Hid (∀ W, Calls Try.prog 23 #[.agg #[.slice a1 c.length c1, .slice a2 l.length c2, .int .i64 en, .int .i64 pa]] W fun r w' => r = .returned (.tuple #[.int .i64 (around en 5), .int .i64 (around pa 3)]) ∧ Below W.heap.size W w') := fun W => near21 _ _ en pa he hp W
  have HP := Lib.hid hP
  have HW0 := Lib.hid hW0
  clear hx hc hy hl he hp hq hm hW0 hP hb0
  have z := FP.out.cells
  obtain ⟨z0, z1, z2, z3⟩ := z
  go_enter Try.func11, Try.ntmps11
  go_wp2_with fail
  rw [← HW0.out]
  refine HMA.out.mono ?_
  rintro e w1 ⟨v1, v2, rfl, cs, ats, HG, HR, hO1, ⟨us0, hO2⟩, b1⟩
  have HT : Hid (TrOk cs.length ats) := ⟨HR.out.1, HG.out.2.2, HR.out.2⟩
  have hcl4 := HG.out.2.2
  have hl8 := HR.out.2
  have HC1 := Lib.hid hO1
  have HROW : Hid (us0.length = ats.length ∧ w1.ownsRow W0.heap.size 29 5 v2 ats.length (atCells ats us0)) := ⟨hO2.len, hO2.row⟩
  have E1 := Lib.hid b1
  obtain ⟨a3, c3, rfl, -, -⟩ := owns_slice hO1
  obtain ⟨a4, c4, rfl, -, -⟩ := owns_slice hO2.row
  clear hO1 hO2 b1 HMA z0 z1 z2 z3 HG HR
  have HN : Hid (cs.length = cs.length) := rfl
  generalize hn : cs.length = n at *
  have HCN := Lib.hid hn
  clear hn HN
  rw [← HP.out]
  go_wp2_with fail
  go_loopw [7] (fun i wr => ∃ (k : Nat) (cl : List (Int × Int)), i = .int .i64 k ∧ k ≤ n ∧ Hid (cl.length = n ∧ ∀ (j : Nat) (h : j < cl.length), j < k → cl[j].2 = 0) ∧ Hid (wr.ownsRow W0.heap.size 53 2 (.slice a3 n c3) n (spCells cl)) ∧ Hid (wr.ownsRow W0.heap.size 29 5 (.slice a4 ats.length c4) ats.length (atCells ats us0)) ∧ Hid (Below W0.heap.size W0 wr)) (fun i _ => n - (intOf i).toNat)
  case atStart => exact ⟨0, cs, rfl, Nat.zero_le _, ⟨HCN.out, fun j _ h => absurd h (Nat.not_lt_zero _)⟩, HC1, HROW.out.2, E1⟩
  case round =>
    obtain ⟨k, cl, rfl, hk, HCL, HCO, HAO, HB⟩ := hrel
    have ek : IntKind.i64.wrap ((k : Int) + 1) = ((k + 1 : Nat) : Int) := by rw [IntKind.wrap_i64]; omega
    by_cases hkl : k < n
    · have hkI : (k : Int) < (n : Int) := by omega
      obtain ⟨g, cap, eg, hg0, hg1, -⟩ := owns_some HCO.out (by omega)
      simp only [Value.slice.injEq, true_and] at eg
      obtain ⟨rfl, rfl⟩ := eg
      have hkcl : k < cl.length := by rw [HCL.out.1]; exact hkl
      obtain ⟨x4, hc4⟩ : ∃ x, wr.cell? ⟨g, k * 2 + 1, none⟩ = some x := ⟨_, by rw [HCO.out.cellAt _ (by omega), spCells_get cl k 1 hkcl (by omega)]; rfl⟩
      have hf4 : wr.frozen? ⟨g, k * 2 + 1, none⟩ = false := HCO.out.frozenAt _
      have hst := HCO.out.stored (k * 2 + 1) (.int .i64 0)
      rw [spCells_set1 cl k hkcl 0] at hst
      have HCO2 := Lib.hid hst.1
      have HAO2 := Lib.hid (HAO.out.kept hst.2 (owns_apart HAO.out HCO.out (by decide)))
      have HB2 := Lib.hid (below_append HB.out HCO.out hst.2 HB.out.size)
      have HCL2 : Hid ((cl.set k (cl[k].1, 0)).length = n ∧ ∀ (j : Nat) (h : j < (cl.set k (cl[k].1, 0)).length), j < k + 1 → (cl.set k (cl[k].1, 0))[j].2 = 0) := by
        refine ⟨by rw [List.length_set]; exact HCL.out.1, fun j hj hjk => ?_⟩
        by_cases e : j = k
        · subst e; rw [List.getElem_set_self]
        · rw [List.getElem_set_ne (fun h => e h.symm)]
          exact HCL.out.2 j (by simpa using hj) (by omega)
      clear hst
      go_wp2_with fail
      go_roundw
      case rel => exact ⟨k + 1, _, by go_num, by omega, HCL2, HCO2, HAO2, HB2⟩
      case measure => simp [intOf]; omega
    · have hke : k = n := by omega
      have hkI : ¬ (k : Int) < (n : Int) := by omega
      have HZ : Hid (cl.length = n ∧ ∀ c ∈ cl, c.2 = 0) := ⟨HCL.out.1, fun c hc => by
        obtain ⟨j, hj, rfl⟩ := List.mem_iff_getElem.1 hc
        exact HCL.out.2 j hj (by rw [hke, ← HCL.out.1]; exact hj)⟩
      have HTB : Hid (TruB W0 wr (.slice a3 n c3) (.slice a4 ats.length c4) (.slice none 0 0) (.slice none 0 0) n cl ats us0 m 0) := ⟨HCO.out, HROW.out.1, HAO.out, fun _ _ h => absurd h (Nat.not_lt_zero _), World.ownsRow_nil _ _ _ _, World.ownsRow_nil _ _ _ _, HB.out⟩
      obtain ⟨wA, rfl⟩ : ∃ wA : World, wA = wr := ⟨_, rfl⟩
      clear HCL HCO HAO HB hke HROW HC1 E1 ek hk
      go_wp2_with fail
      go_loopw [8, 9, 10] (fun p q i wr => ∃ (k : Nat) (vp vw : Value) (us : List Value), vp = p ∧ vw = q ∧ i = .int .i64 k ∧ k ≤ ats.length ∧ Hid (TruB W0 wr (.slice a3 n c3) (.slice a4 ats.length c4) vp vw n cl ats us m k)) (fun _ _ i _ => ats.length - (intOf i).toNat)
      case atStart => exact ⟨0, _, _, us0, rfl, rfl, rfl, Nat.zero_le _, HTB⟩
      case round =>
        obtain ⟨k, vp, vw, us, rfl, rfl, rfl, hk, HTB⟩ := hrel
        have ek : IntKind.i64.wrap ((k : Int) + 1) = ((k + 1 : Nat) : Int) := by rw [IntKind.wrap_i64]; omega
        by_cases hkl : k < ats.length
        · have hkI : (k : Int) < (ats.length : Int) := by omega
          obtain ⟨g, cap, eg, hg0, hg1, -⟩ := owns_some HTB.out.row (by omega)
          simp only [Value.slice.injEq, true_and] at eg
          obtain ⟨rfl, rfl⟩ := eg
          have hku : k < us.length := by rw [HTB.out.len]; exact hkl
          have hlen := HTB.out.len
          obtain ⟨x4, hc4⟩ : ∃ x, wr.cell? ⟨g, k * 5 + 4, none⟩ = some x := ⟨_, by rw [HTB.out.row.cellAt _ (by omega), atCells_get ats us hlen k 4 hkl (by omega)]; rfl⟩
          have hf4 : wr.frozen? ⟨g, k * 5 + 4, none⟩ = false := HTB.out.row.frozenAt _
          have hst := HTB.out.row.stored (k * 5 + 4) (.slice none 0 0)
          have hset : (atCells ats us).set (k * 5 + 4) (.slice none 0 0) = atCells ats (us.set k (.slice none 0 0)) := by
            have h := atCells_set ats us hlen k 4 hkl (by omega) (.slice none 0 0) ats[k] (.slice none 0 0) (by simp [atRow])
            rw [h, List.set_getElem_self]
          rw [hset] at hst
          have hT1 : TruB W0 (wr.setCell ⟨g, k * 5 + 4, none⟩ (.slice none 0 0)) (.slice a3 n c3) (.slice (some ⟨g, 0, none⟩) ats.length c4) vp vw n cl ats (us.set k (.slice none 0 0)) m k :=
            ⟨HTB.out.cars.kept hst.2 (owns_apart HTB.out.cars HTB.out.row (by decide)), by rw [List.length_set]; exact hlen, hst.1, fun i hi hik => by rw [List.getElem_set_ne (by omega)]; exact HTB.out.nils i (by simpa using hi) hik,
              HTB.out.pap.kept hst.2 (owns_apart HTB.out.pap HTB.out.row (by decide)), HTB.out.way.kept hst.2 (owns_apart HTB.out.way HTB.out.row (by decide)), below_append HTB.out.bel HTB.out.row hst.2 HTB.out.bel.size⟩
          have hnk : (us.set k (.slice none 0 0))[k]? = some (.slice none 0 0) := by rw [List.getElem?_set_self hku]
          obtain ⟨W1, hW1⟩ : ∃ W, W = wr.setCell ⟨g, k * 5 + 4, none⟩ (.slice none 0 0) := ⟨_, rfl⟩
          rw [← hW1] at hT1
          have HNK := Lib.hid hnk
          generalize us.set k (.slice none 0 0) = us1 at *
          have HT1 := Lib.hid hT1
          have hlen1 := hT1.len
          have hge : atG ats k = ats[k] := by unfold atG; rw [List.getD_eq_getElem?_getD, List.getElem?_eq_getElem hkl]; rfl
          have hcell : ∀ (j : Nat), j < 5 → W1.cell? ⟨g, k * 5 + j, none⟩ = (atRow ats[k] (us1[k]'(by omega)))[j]? := fun j hj => by rw [hT1.row.cellAt _ (by omega), atCells_get ats us1 hlen1 k j hkl hj]
          have s1 : W1.cell? ⟨g, k * 5 + 1, none⟩ = some (.int .i64 ats[k].par) := (hcell 1 (by omega)).trans rfl
          have s2 : W1.cell? ⟨g, k * 5 + 2, none⟩ = some (.int .i64 ats[k].car) := (hcell 2 (by omega)).trans rfl
          have s3 : W1.cell? ⟨g, k * 5 + 3, none⟩ = some (.int .i64 ats[k].sent) := (hcell 3 (by omega)).trans rfl
          have HPK : Hid (papF ats k = ⟨(k : Int), ats[k].par, ats[k].car, ats[k].sent⟩) := by show _ = _; unfold papF; rw [hge]
          have HPI := Lib.hid (pick3_any m (.slice qa m.length qc) k 20)
          have hpk := pickF_in m k 20 (by omega)
          obtain ⟨PK, hPK⟩ : ∃ x, pickF m k 20 = x := ⟨_, rfl⟩
          rw [hPK] at hpk HPI
          have HWK : Hid (wyF m k = ⟨(k : Int), 0, 1 + PK, 0⟩) := by show _ = _; unfold wyF; rw [hPK]
          generalize ats[k] = a at *
          obtain ⟨ae, ap, ac, an, ow⟩ := a
          simp only at s1 s2 s3 HPK
          obtain ⟨a7, c7, rfl, -, -⟩ := owns_slice HT1.out.pap
          obtain ⟨a8, c8, rfl, -, -⟩ := owns_slice HT1.out.way
          have HLP : Hid (∀ (W : World) (z : Nat), W.heap.size = z → Rd (W.alloc (.cells #[.int .i64 (k : Int), .int .i64 ap, .int .i64 ac, .int .i64 an] 63)) (.slice (some ⟨z, 0, none⟩) 1 1) 4 1 (rtRow ⟨(k : Int), ap, ac, an⟩)) := fun W z hz => by subst hz; exact Rd.lit W (litRt ⟨(k : Int), ap, ac, an⟩) 63 4 1 rfl (by unfold maxLen; omega)
          have HLW : Hid (∀ (W : World), Rd (W.alloc (.cells #[.int .i64 (k : Int), .int .i64 0, .int .i64 (1 + PK), .int .i64 0] 66)) (.slice (some ⟨W.heap.size, 0, none⟩) 1 1) 4 1 (rtRow ⟨(k : Int), 0, 1 + PK, 0⟩)) := fun W => Rd.lit W (litRt ⟨(k : Int), 0, 1 + PK, 0⟩) 66 4 1 rfl (by unfold maxLen; omega)
          have HW1 := Lib.hid hW1
          clear hst hset hT1 hnk hcell hge hPK hW1 HTB
          have HN1 : Hid (k + 1 ≤ maxLen) := (by show _ ≤ _; unfold maxLen; omega)
          have HN2 : Hid ((k + 1) * 32 ≤ 140737488355328) := (by show _ ≤ _; omega)
          have HBA : Hid (∀ X : Obj, Below W1.heap.size W1 ((W1.alloc X).drew)) := fun X => ((Below.refl _ _).alloc (Nat.le_refl _) _).drew
          have HRA : Hid (Rd ((W1.alloc (.cells #[.int .i64 (k : Int), .int .i64 ap, .int .i64 ac, .int .i64 an] 63)).drew) (.slice (some ⟨W1.heap.size, 0, none⟩) 1 1) 4 1 (rtRow ⟨(k : Int), ap, ac, an⟩)) := (HLP.out W1 _ rfl).below ((Below.refl _ _).drew)
          have HRO : Hid (∀ u ∈ rtRow ⟨(k : Int), ap, ac, an⟩, u.oneCell' = true) := fun u hu => by
            simp [rtRow] at hu
            rcases hu with rfl | rfl | rfl | rfl <;> rfl
          have HRW : Hid (∀ u ∈ rtRow ⟨(k : Int), 0, 1 + PK, 0⟩, u.oneCell' = true) := fun u hu => by
            simp [rtRow] at hu
            rcases hu with rfl | rfl | rfl | rfl <;> rfl
          have HWS : Hid (rtCells (wyL m (k + 1)) = rtCells (wyL m k) ++ rtRow ⟨(k : Int), 0, 1 + PK, 0⟩) := by
            show _ = _
            unfold wyL
            rw [map_range_S, rtCells_append, rtCells_single, HWK.out]
          have HNS : Hid (∀ (i : Nat) (h : i < us1.length), i < k + 1 → us1[i] = .slice none 0 0) := fun i h hik => by
            rcases Nat.lt_succ_iff_lt_or_eq.1 hik with g1 | rfl
            · exact HT1.out.nils i h g1
            · have h1 := HNK.out
              rw [List.getElem?_eq_getElem h] at h1
              exact Option.some.inj h1
          have HPS : Hid (rtCells (papL ats (k + 1)) = rtCells (papL ats k) ++ rtRow ⟨(k : Int), ap, ac, an⟩) := by
            show _ = _
            unfold papL
            rw [map_range_S, rtCells_append, rtCells_single, HPK.out]
          go_wp2_with fail
          rw [← HW1.out]
          go_region_law
            (first
              | (refine step_append_rd (by rfl) _ _ 60 (by rfl) W0.heap.size 63 _ 4 32 Try.underlying60 infoPap rfl (by decide) (.slice a7 k c7) k (rtCells (papL ats k)) (by rfl) (owns_below HT1.out.pap (HBA.out _)) _ 1 (rtRow ⟨(k : Int), ap, ac, an⟩) (by rfl) HRA.out HRO.out HN1.out HN2.out (Nat.le_trans HT1.out.bel.size (HBA.out _).size) ?_
                 intro v4 w4 hv4 hg4
                 have HV4 := Lib.hid hv4
                 have HG4 := Lib.hid hg4
                 clear hv4 hg4))
          all_goals
            have HC4 := Lib.hid ((HT1.out.below (HBA.out (.cells #[.int .i64 (k : Int), .int .i64 ap, .int .i64 ac, .int .i64 an] 63))).pap1 HPS.out HV4.out HG4.out)
            obtain ⟨a9, c9, hv9, -, -⟩ := owns_slice HV4.out
            subst hv9
            have HPC := Lib.hid (HPI.out w4 (HQ.out.below HC4.out.bel) HM.out (by omega) (by omega) (by omega))
            have hw20 : IntKind.i64.wrap (1 + PK) = 1 + PK := by rw [IntKind.wrap_i64]; omega
            clear HV4 HG4 HRA HBA s1 s2 s3 hc4 hf4
            go_wp2_with fail
            refine HPC.out.mono ?_
            rintro e w5 ⟨rfl, rfl⟩
            go_wp2_with (at_builtin; go_must (refine wpList_append_rd rfl _ _ 61 rfl W0.heap.size 66 _ 4 32 Try.underlying61 infoWay rfl (by decide) (.slice a8 k c8) k (rtCells (wyL m k)) rfl (owns_below HC4.out.way ?b0) _ 1 (rtRow ⟨(k : Int), 0, 1 + PK, 0⟩) rfl (HLW.out _) HRW.out HN1.out HN2.out ?b3 ?_))
            case b0 => exact (Below.refl _ _).alloc (Nat.le_refl _) _
            case b3 => exact Nat.le_trans HC4.out.bel.size (by simp)
            intro v6 w6 hv6 hg6
            have HTN := Lib.hid ((HC4.out.below ((Below.refl _ _).alloc (Nat.le_refl _) (.cells #[.int .i64 (k : Int), .int .i64 0, .int .i64 (1 + PK), .int .i64 0] 66))).way1 HT1.out.len HNS.out HWS.out hv6 hg6)
            obtain ⟨a10, c10, hv10, -, -⟩ := owns_slice hv6
            subst hv10
            clear hv6 hg6 HPC HC4
            go_wp2_with fail
            go_roundw
            case rel => exact ⟨k + 1, _, _, _, rfl, rfl, by go_num, by omega, HTN⟩
            case measure => simp [intOf]; omega
        · have hke : k = ats.length := by omega
          subst hke
          have hkI : ¬ (ats.length : Int) < (ats.length : Int) := by omega
          obtain ⟨wB, rfl⟩ : ∃ wB : World, wB = wr := ⟨_, rfl⟩
          have HA0 := Lib.hid HTB.out.ats
          have hpap : IsRts wB vp (papL ats ats.length) := IsRts.of_owns HTB.out.pap
          have hway : IsRts wB vw (wyL m ats.length) := IsRts.of_owns HTB.out.way
          have HCA := Lib.hid (IsSps.of_owns HTB.out.cars)
          have HPAP := Lib.hid hpap
          have HWAY := Lib.hid hway
          have EB := Lib.hid HTB.out.bel
          have HCHK := Lib.hid (check_cr (papL ats ats.length) (wyL m ats.length) vp vw wB hpap hway (pap_ok HT.out) (way_ok ats m))
          have HDS : Hid (∀ i, i < ats.length → 739617 ≤ dayF ats m i ∧ dayF ats m i ≤ 739665) := fun i hi => by have := dayF_in (days := m) HT.out hi; omega
          have HRUN : Hid (∀ W, Below wB.heap.size wB W → Calls Try.prog 30 #[vp, vw, .int .i64 739716] W fun e w' => ∃ v1 v2, e = .returned (.tuple #[v1, v2]) ∧ ∃ D R, Hid (D.Perm ((List.range ats.length).map (dlF ats m))) ∧ Hid (R.Perm ((List.range ats.length).map (rpF ats m))) ∧ Hid (RunAt W w' v1 v2 D R)) := fun W hW => by
            have h := run_any (papL ats ats.length) (wyL m ats.length) vp vw 739716 W (hpap.below hW) (hway.below hW) (fun p hp => by have := (pap_ok HT.out).num p hp; omega) (fun x hx => by have := (way_ok ats m).num x hx; omega) (by rw [papL_len]; omega)
              (fun d hd => by
                rw [run_D m HT.out _ (Nat.le_refl _)] at hd
                obtain ⟨i, hi, rfl⟩ := List.mem_map.1 hd
                have := HDS.out i (List.mem_range.1 hi)
                show dayF ats m i ≤ _
                omega)
              (fun r hr => by
                rw [run_R m HT.out _ (Nat.le_refl _)] at hr
                obtain ⟨i, hi, rfl⟩ := List.mem_map.1 hr
                have := HDS.out i (List.mem_range.1 hi)
                show dayF ats m i + 1 ≤ _
                omega)
            rw [run_D m HT.out _ (Nat.le_refl _), run_R m HT.out _ (Nat.le_refl _)] at h
            exact h
          obtain ⟨a7, c7, hv7, -, -⟩ := owns_slice HTB.out.pap
          obtain ⟨a8, c8, hv8, -, -⟩ := owns_slice HTB.out.way
          subst hv7
          subst hv8
          clear hpap hway HTB ek hk
          go_wp2_with fail
          refine HCHK.out.mono ?_
          rintro e w5 ⟨rfl, b5⟩
          have HRU := Lib.hid (HRUN.out w5 b5)
          have E5 := Lib.hid b5
          clear b5 HCHK HRUN
          go_wp2_with fail
          refine HRU.out.mono ?_
          rintro e w6 ⟨vD, vR, rfl, D, R, HPD, HPR, HRA⟩
          have E6 := Lib.hid (Below.to E5.out HRA.out.bel E5.out.size)
          have HVD := Lib.hid (IsDls.of_owns HRA.out.del)
          have HVR := Lib.hid (IsRps.of_owns HRA.out.rep)
          have HA6 := Lib.hid (HA0.out.below E6.out)
          have HCA6 := Lib.hid (HCA.out.below E6.out)
          have HPAP6 := Lib.hid (HPAP.out.below E6.out)
          have EW6 := Lib.hid (Below.to EB.out E6.out EB.out.size)
          have HRN : Hid (R.length = ats.length) := by show _ = _; rw [HPR.out.length_eq]; simp
          obtain ⟨aD, cD, hvD, -, -⟩ := HVD.out.open
          obtain ⟨aR, cR, hvR, hRm, -⟩ := HVR.out.open
          subst hvD
          subst hvR
          have hR8 : R.length ≤ 8 := by have := HRN.out; omega
          rw [← atK_0 ats m R] at HA6
          clear HRU HRA HA0 HCA HPAP HWAY E5 E6 hRm
          go_wp2_with fail
          go_loopw [6, 13] (fun q i wr => ∃ (k : Nat) (vl : Value), vl = q ∧ i = .int .i64 k ∧ k ≤ R.length ∧ Hid (IsAts wr vl (atK ats m R k)) ∧ Hid (Below w6.heap.size w6 wr)) (fun _ i _ => R.length - (intOf i).toNat)
          case atStart => exact ⟨0, _, rfl, rfl, Nat.zero_le _, HA6, Lib.hid (Below.refl _ _)⟩
          case round =>
            obtain ⟨k, vl, rfl, rfl, hk, HAK, HBC⟩ := hrel
            have ek : IntKind.i64.wrap ((k : Int) + 1) = ((k + 1 : Nat) : Int) := by rw [IntKind.wrap_i64]; omega
            by_cases hkl : k < R.length
            · have hkI : (k : Int) < (R.length : Int) := by omega
              obtain ⟨i, hi, hri, hre, hrl⟩ := atK_step (n := n) HPR.out hkl HT.out
              obtain ⟨b9, o9, q9, e9, -, x0, x1, x2, x3, x4, x5⟩ := (HVR.out.below HBC.out).at hkl
              simp only [Value.slice.injEq, true_and] at e9
              obtain ⟨rfl, -⟩ := e9
              rw [hri] at x0 x2 x3 x4 x5
              obtain ⟨rc, hrc⟩ : ∃ x, (atG ats i).car = x := ⟨_, rfl⟩
              obtain ⟨dy, hdy⟩ : ∃ x, dayF ats m i = x := ⟨_, rfl⟩
              have hrt : rtF ats m i = ⟨rc, 1, dy, dy⟩ := by unfold rtF; rw [hrc, hdy]
              have y0 : wr.cell? ⟨b9, o9 + k * 6, none⟩ = some (.int .i64 (i : Int)) := x0
              have y2 : wr.cell? ⟨b9, o9 + k * 6 + 2, none⟩ = some (.int .i64 rc) := by rw [← hrc]; exact x2
              have y3 : wr.cell? ⟨b9, o9 + k * 6 + 3, none⟩ = some (.int .i64 1) := x3
              have y4 : wr.cell? ⟨b9, o9 + k * 6 + 4, none⟩ = some (.int .i64 dy) := by rw [← hdy]; exact x4
              have y5 : wr.cell? ⟨b9, o9 + k * 6 + 5, none⟩ = some (.int .i64 dy) := by rw [← hdy]; exact x5
              have hbl := World.block_lt_of_cell? _ _ y0
              have HKS : Hid (∀ X, Below wr.heap.size wr X → X.cell? ⟨b9, o9 + k * 6, none⟩ = some (.int .i64 (i : Int)) ∧ X.cell? ⟨b9, o9 + k * 6 + 2, none⟩ = some (.int .i64 rc) ∧ X.cell? ⟨b9, o9 + k * 6 + 3, none⟩ = some (.int .i64 1) ∧ X.cell? ⟨b9, o9 + k * 6 + 4, none⟩ = some (.int .i64 dy) ∧ X.cell? ⟨b9, o9 + k * 6 + 5, none⟩ = some (.int .i64 dy)) := fun X hX =>
                ⟨(hX.cell (p := ⟨b9, o9 + k * 6, none⟩) hbl).trans y0, (hX.cell (p := ⟨b9, o9 + k * 6 + 2, none⟩) hbl).trans y2, (hX.cell (p := ⟨b9, o9 + k * 6 + 3, none⟩) hbl).trans y3, (hX.cell (p := ⟨b9, o9 + k * 6 + 4, none⟩) hbl).trans y4, (hX.cell (p := ⟨b9, o9 + k * 6 + 5, none⟩) hbl).trans y5⟩
              have KD := Lib.hid (HKS.out wr.drew ((Below.refl _ _).drew))
              have hsr := svcReturn (atK ats m R k) (i : Int) (rtF ats m i) cl vl (.slice a3 n c3) wr.drew (HAK.out.below ((Below.refl _ _).drew)) ((HCA6.out.below HBC.out).below ((Below.refl _ _).drew)) (by rw [atK_len]; omega) (fun x hx => by
                obtain ⟨j, hj, rfl⟩ := List.mem_iff_getElem.1 hx
                rw [atK_get]
                split
                · simp [at1F]
                · simp [at0F])
              rw [HZ.out.1, hre, hrl, hrt] at hsr
              have HSR : Hid (Calls Try.prog 20 #[vl, .int .i64 (i : Int), .agg #[.int .i64 rc, .int .i64 1, .int .i64 dy, .int .i64 dy], .slice a3 n c3] wr.drew fun e w' => ∃ v', e = .returned (.tuple #[v', .int .i64 0]) ∧ IsAts w' v' (atK ats m R (k + 1)) ∧ Below wr.drew.heap.size wr.drew w') := hsr
              obtain ⟨aL, nL, cL, hvl⟩ := HAK.out.sl5
              subst hvl
              clear hsr x0 x1 x2 x3 x4 x5 hrt hrc hdy hre hrl hri y0 y2 y3 y4 y5 hbl
              go_wp2_with fail
              go_region_held3 (fun w' => w'.cell? ⟨b9, o9 + k * 6, none⟩ = some (.int .i64 (i : Int)) ∧ w'.cell? ⟨b9, o9 + k * 6 + 2, none⟩ = some (.int .i64 rc) ∧ w'.cell? ⟨b9, o9 + k * 6 + 3, none⟩ = some (.int .i64 1) ∧ w'.cell? ⟨b9, o9 + k * 6 + 4, none⟩ = some (.int .i64 dy) ∧ w'.cell? ⟨b9, o9 + k * 6 + 5, none⟩ = some (.int .i64 dy))
                (first
                  | exact KD.out
                  | exact HKS.out _ HB7.out
                  | go_keep)
                (first
                  | (go_at_call 20
                     refine HSR.out.mono ?_
                     rintro e w7 ⟨v7, rfl, hv7, b7⟩
                     have HB7 : Hid (Below wr.heap.size wr w7) := Below.to ((Below.refl _ _).drew) b7 (Nat.le_refl _)
                     have HV7 := Lib.hid hv7
                     obtain ⟨a11, n11, c11, hv11⟩ := hv7.sl5
                     subst hv11
                     clear b7 hv7))
              have HB8 := Lib.hid (Below.to HBC.out HB7.out HBC.out.size)
              clear KD HKS HSR HB7
              go_wp2_with fail
              go_roundw
              case rel => exact ⟨k + 1, _, rfl, by go_num, by omega, HV7, HB8⟩
              case measure => simp [intOf]; omega
            · have hke : k = R.length := by omega
              have hkI : ¬ (k : Int) < (R.length : Int) := by omega
              rw [hke, atK_end HPR.out] at HAK
              obtain ⟨wC, rfl⟩ : ∃ wC : World, wC = wr := ⟨_, rfl⟩
              have EC := Lib.hid (Below.to EW6.out HBC.out EW6.out.size)
              have HCAC := Lib.hid (HCA6.out.below HBC.out)
              have HPAC := Lib.hid (HPAP6.out.below HBC.out)
              have HVDC := Lib.hid (HVD.out.below HBC.out)
              have FPC := Lib.hid (FP.out.below EC.out)
              have hA1l : ((List.range ats.length).map (at1F ats m)).length = ats.length := by simp
              have HOKA : Hid (AtsOk cl.length ((List.range ats.length).map (at1F ats m))) := fun x hx => by
                obtain ⟨i, hi, rfl⟩ := List.mem_map.1 hx
                rw [List.mem_range] at hi
                have hg := HT.out.at hi
                have hd := HDS.out i hi
                obtain ⟨g1, g2, g3, g4, -⟩ := hg
                rw [HZ.out.1]
                refine AtOk.of ⟨?_, ?_, ?_, ?_⟩ (fun r hr => ?_) (by simp [at1F])
                · show 0 ≤ (atG ats i).ent ∧ (atG ats i).ent ≤ 65535; omega
                · show 0 ≤ (atG ats i).par ∧ (atG ats i).par ≤ 63; omega
                · show 0 ≤ (atG ats i).car ∧ (atG ats i).car ≤ (n : Int) - 1; omega
                · show 0 ≤ (atG ats i).sent ∧ (atG ats i).sent ≤ 3652058; omega
                · have er : r = rtF ats m i := by simpa [at1F] using hr
                  subst er
                  exact ⟨g3, .inl ⟨rfl, by show 0 ≤ dayF ats m i; omega, Int.le_refl _, by show dayF ats m i ≤ _; omega⟩⟩
              have HCOK : Hid (CarOk cl) := fun c hc => by rw [HZ.out.2 c hc]; omega
              have HSVD : Hid (∀ a ∈ (List.range ats.length).map (at1F ats m), Svd a.own cl a.sent (fT a)) := fun a ha => by
                obtain ⟨i, hi, rfl⟩ := List.mem_map.1 ha
                exact svd_tight m HZ.out.2 HZ.out.1 HT.out (List.mem_range.1 hi)
              have HOFC : Hid (∀ (en' pa' : Int) (v y : Value) (w : World), IsAts w v ((List.range ats.length).map (at1F ats m)) → IsSps w y cl → Calls Try.prog 24 #[v, .int .i64 en', .int .i64 pa', y] w (fun e w' => e = .returned (.tuple #[.agg (svLit (ofF fT cl en' pa' ((List.range ats.length).map (at1F ats m)))), .bool (ofF fT cl en' pa' ((List.range ats.length).map (at1F ats m))).isSome]) ∧ Below w.heap.size w w')) := fun en' pa' v y w h1 h2 =>
                svcOf fT _ cl v y en' pa' w h1 h2 (by rw [hA1l]; omega) (by rw [HZ.out.1]; omega) HOKA.out HCOK.out HSVD.out
              have HSRV : Hid (∀ (k : Nat) (hk : k < ats.length) (W : World), Below wC.heap.size wC W → Calls Try.prog 31 #[.slice aD D.length cD, .slice a7 ats.length c7, .int .i64 k] W fun e w' => e = .returned (.tuple #[.int .i64 (dayF ats m k), .bool true]) ∧ Below W.heap.size W w') := fun k hk W hW => by
                have h := served_cr D (papL ats ats.length) k (.slice aD D.length cD) (.slice a7 ats.length c7) W (HVDC.out.below hW) (HPAC.out.below hW) (pap_ok HT.out).idx (by rw [papL_len]; exact hk)
                have e : ((papL ats ats.length)[k]'(by rw [papL_len]; exact hk)).kind = (atG ats k).par := by simp [papL, papF]
                rw [e, srv_at HPD.out hk] at h
                exact h
              obtain ⟨aL, cL, hvl, -, -⟩ := HAK.out.open
              rw [hA1l] at hvl
              subst hvl
              obtain ⟨z0, z1, z2, z3⟩ := FPC.out.cells
              clear hke HPD HPR HRN HDS HCA6 HPAP6 HVD HVR EW6 HBC HOKA HCOK HSVD ek hk
              go_wp2_with fail
              refine (HNE.out wC).mono ?_
              rintro e w8 ⟨rfl, b8⟩
              have HA8 := Lib.hid (HAK.out.below b8)
              have HC8 := Lib.hid (HCAC.out.below b8)
              have E8 := Lib.hid b8
              clear b8 z0 z1 z2 z3
              generalize around en 5 = en' at *
              generalize around pa 3 = pa' at *
              obtain ⟨o, ho⟩ : ∃ o, ofF fT cl en' pa' ((List.range ats.length).map (at1F ats m)) = o := ⟨_, rfl⟩
              have HMIN : Hid (∀ v, MinTo ats m en' pa' ats.length v → o.isSome = decide (0 ≤ v) ∧ ∀ s, o = some s → s.day = v) := fun v hv => by
                have h := hv.done (cs := cl)
                rw [ho] at h
                exact h
              have hof := HOFC.out en' pa' _ _ w8 HA8.out HC8.out
              rw [ho] at hof
              obtain ⟨x, y, z, hs⟩ := svLit_three o
              have HXD : Hid (∀ s, o = some s → s.day = x) := fun s h => by
                rw [h] at hs
                unfold svLit at hs
                simp only at hs
                injection hs with hs
                injection hs with hs
                injection hs
              obtain ⟨b, hb⟩ : ∃ b, o.isSome = b := ⟨_, rfl⟩
              rw [hs, hb] at hof
              have HOF := Lib.hid hof
              have HBO := Lib.hid hb
              clear hof hs hb ho HOFC
              go_wp2_with fail
              refine HOF.out.mono ?_
              rintro e w9 ⟨rfl, b9⟩
              have b9 := Below.alloc b9 b9.size (.cells #[.int .i64 x, .int .i64 y, .int .i64 z] 48)
              have F1 := Lib.hid (Kept.new w9 x y z)
              obtain ⟨G1, hG1⟩ : ∃ G1, G1 = w9.heap.size := ⟨_, rfl⟩
              obtain ⟨X9, hX9⟩ : ∃ X, X = w9.alloc (.cells #[.int .i64 x, .int .i64 y, .int .i64 z] 48) := ⟨_, rfl⟩
              rw [← hX9] at b9 F1
              rw [← hG1] at F1
              have HA9 := Lib.hid (HA8.out.below b9)
              have E9 := Lib.hid (Below.to E8.out b9 E8.out.size)
              have HX9 := Lib.hid hX9
              have HG1 := Lib.hid hG1
              clear b9 hX9 hG1 HOF HA8 HC8
              go_wp2_with fail
              rw [← HX9.out, ← HG1.out]
              go_loopw [20, 21] (fun q i wr => ∃ (k : Nat) (v : Int), q = .int .i64 v ∧ i = .int .i64 k ∧ k ≤ ats.length ∧ Hid (MinTo ats m en' pa' k v) ∧ Hid (Below X9.heap.size X9 wr)) (fun _ i _ => ats.length - (intOf i).toNat)
              case atStart => exact ⟨0, -1, rfl, rfl, Nat.zero_le _, Lib.hid (MinTo.start _ _ _ _), Lib.hid (Below.refl _ _)⟩
              case round =>
                obtain ⟨k, v, rfl, rfl, hk, HMK, HBD⟩ := hrel
                have ek : IntKind.i64.wrap ((k : Int) + 1) = ((k + 1 : Nat) : Int) := by rw [IntKind.wrap_i64]; omega
                by_cases hkl : k < ats.length
                · have hkI : (k : Int) < (ats.length : Int) := by omega
                  have HSR := Lib.hid (HSRV.out k hkl wr (Below.to E9.out HBD.out E9.out.size))
                  have hd9 := dayF_in (days := m) HT.out hkl
                  have HSK := Lib.hid (fun h => HMK.out.skip (k := k) h)
                  have HTK := Lib.hid (fun h1 h2 h3 => HMK.out.take (k := k) h1 h2 h3)
                  obtain ⟨dy, hdy⟩ : ∃ x, dayF ats m k = x := ⟨_, rfl⟩
                  obtain ⟨ae, hae⟩ : ∃ x, (atG ats k).ent = x := ⟨_, rfl⟩
                  obtain ⟨ap, hap⟩ : ∃ x, (atG ats k).par = x := ⟨_, rfl⟩
                  have hcells : ∀ X, Below wr.heap.size wr X → ∃ b5 o5, aL = some ⟨b5, o5, none⟩ ∧ X.cell? ⟨b5, o5 + k * 5, none⟩ = some (.int .i64 ae) ∧ X.cell? ⟨b5, o5 + k * 5 + 1, none⟩ = some (.int .i64 ap) := fun X hX => by
                    obtain ⟨_, _, e5, -, -, hc5⟩ := ((HA9.out.below HBD.out).below hX).open
                    obtain ⟨b5, o5, u5, rfl, -, d0, d1, -⟩ := hc5 k (by rw [hA1l]; exact hkl)
                    simp only [Value.slice.injEq] at e5
                    have e : ((List.range ats.length).map (at1F ats m))[k]'(by rw [hA1l]; exact hkl) = at1F ats m k := by simp
                    rw [e] at d0 d1
                    exact ⟨b5, o5, e5.1, by rw [← hae]; exact d0, by rw [← hap]; exact d1⟩
                  have HCE := Lib.hid hcells
                  rw [hdy] at HSR HSK HTK hd9
                  rw [hae, hap] at HSK HTK
                  clear hdy hae hap hcells HMK
                  go_wp2_with fail
                  refine HSR.out.mono ?_
                  rintro e w10 ⟨rfl, b10⟩
                  obtain ⟨b5, o5, e5, d0, d1⟩ := HCE.out w10 b10
                  subst e5
                  have HB10 := Lib.hid (Below.to HBD.out b10 HBD.out.size)
                  clear b10 HSR HCE
                  by_cases hm1 : ae = en'
                  · by_cases hm2 : ap = pa'
                    · subst hm1
                      subst hm2
                      by_cases hv : v < 0
                      · have HN := Lib.hid (HTK.out ⟨rfl, rfl⟩ (.inl hv) (by omega))
                        clear HSK HTK
                        go_wp2_with fail
                        go_roundw
                        case rel => exact ⟨k + 1, _, rfl, by go_num, by omega, HN, HB10⟩
                        case measure => simp [intOf]; omega
                      · by_cases hd : dy < v
                        · have HN := Lib.hid (HTK.out ⟨rfl, rfl⟩ (.inr hd) (by omega))
                          clear HSK HTK
                          go_wp2_with fail
                          go_roundw
                          case rel => exact ⟨k + 1, _, rfl, by go_num, by omega, HN, HB10⟩
                          case measure => simp [intOf]; omega
                        · have HN := Lib.hid (HSK.out (.inr ⟨by omega, by omega⟩))
                          clear HSK HTK
                          go_wp2_with fail
                          go_roundw
                          case rel => exact ⟨k + 1, _, rfl, by go_num, by omega, HN, HB10⟩
                          case measure => simp [intOf]; omega
                    · have HN := Lib.hid (HSK.out (.inl (fun h => hm2 h.2)))
                      clear HSK HTK
                      go_wp2_with fail
                      go_roundw
                      case rel => exact ⟨k + 1, _, rfl, by go_num, by omega, HN, HB10⟩
                      case measure => simp [intOf]; omega
                  · have HN := Lib.hid (HSK.out (.inl (fun h => hm1 h.1)))
                    clear HSK HTK
                    go_wp2_with fail
                    go_roundw
                    case rel => exact ⟨k + 1, _, rfl, by go_num, by omega, HN, HB10⟩
                    case measure => simp [intOf]; omega
                · have hke : k = ats.length := by omega
                  have hkI : ¬ (k : Int) < (ats.length : Int) := by omega
                  rw [hke] at HMK
                  obtain ⟨hq1, hq2⟩ := HMIN.out v HMK.out
                  rw [HBO.out] at hq1
                  have E10 := Lib.hid (Below.to EC.out (Below.to E9.out HBD.out E9.out.size) EC.out.size)
                  obtain ⟨p0, p1, p2⟩ := (F1.out.below HBD.out).cells
                  by_cases hv : 0 ≤ v
                  · have hb1 : b = true := by rw [hq1]; simpa using hv
                    have hxv : x = v := by
                      have h9 := HBO.out
                      rw [hb1] at h9
                      obtain ⟨s, hs⟩ := Option.isSome_iff_exists.1 h9
                      rw [← HXD.out s hs, hq2 s hs]
                    subst hb1
                    subst hxv
                    clear hq1 hq2 hke
                    go_wp2_with fail
                    refine (lives21 _).mono ?_
                    rintro e w11 ⟨rfl, b11⟩
                    have E11 := Lib.hid (Below.to HB0.out (Below.to E10.out b11 E10.out.size) HB0.out.size)
                    clear b11
                    go_wp2_with fail
                    go_ret
                    exact ⟨rfl, E11.out⟩
                  · have hb1 : b = false := by rw [hq1]; simpa using hv
                    subst hb1
                    clear hq1 hq2 hke
                    go_wp2_with fail
                    refine (lives21 _).mono ?_
                    rintro e w11 ⟨rfl, b11⟩
                    have E11 := Lib.hid (Below.to HB0.out (Below.to E10.out b11 E10.out.size) HB0.out.size)
                    clear b11
                    go_wp2_with fail
                    go_ret
                    exact ⟨rfl, E11.out⟩

end Go.Proofs.Ytdhiefgbajogcaa
