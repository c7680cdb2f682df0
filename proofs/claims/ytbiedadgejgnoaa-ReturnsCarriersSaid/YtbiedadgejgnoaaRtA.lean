/-
  The reference's Allowed and Served.
-/
import Derived.Test.YtbiedadgejgnoaaRtT
import Derived.Test.YtbiedadgejgnoaaRtQ
import Derived.Test.YtbiedadgejgnoaaRf2
namespace Go.Proofs.Ytbiedadgejgnoaa
open Go.RowKit

theorem excF_B {l : List Ret} {cs : List (Int × Int)} {d : Int} (hl : l.length ≤ 1000) (hcl : cs.length ≤ 1000) (hc : CarOk cs) : 0 ≤ excF l cs d ∧ excF l cs d ≤ 1000000 := by
  have h : ∀ k, k ≤ cs.length → 0 ≤ excTo l cs d k ∧ excTo l cs d k ≤ 1000 * (k : Int) := by
    intro k
    induction k with
    | zero => intro _; exact ⟨Int.le_refl _, by show (0 : Int) ≤ _; omega⟩
    | succ k ih =>
      intro hk
      obtain ⟨h1, h2⟩ := ih (by omega)
      have h3 := nW_le l (k : Int) d
      have h4 : 0 ≤ (cs.getD k (0, 0)).2 := by
        rw [List.getD_eq_getElem?_getD, List.getElem?_eq_getElem (by omega)]
        exact (hc _ (List.getElem_mem (by omega))).1
      have h5 : exTerm l cs d k ≤ 1000 := by unfold exTerm; omega
      have h6 := exTerm_pos l cs d k
      show 0 ≤ excTo l cs d k + exTerm l cs d k ∧ excTo l cs d k + exTerm l cs d k ≤ _
      omega
  obtain ⟨h1, h2⟩ := h cs.length (Nat.le_refl _)
  exact ⟨h1, by unfold excF; omega⟩

set_option maxHeartbeats 4000000 in
set_option maxRecDepth 100000 in
theorem refAllowed_any (l : List Ret) (cs : List (Int × Int)) (v u : Value) (sent : Int) (w : World) (hx : IsRts w v l) (hy : IsSps w u cs) (hl : l.length ≤ 100) (hcl : cs.length ≤ 1000) (hr : RetsOk cs.length l) (hc : CarOk cs) (hs0 : 0 ≤ sent) (hs : sent ≤ 3652058) :
    Calls Try.prog 19 #[v, u, .int .i64 sent] w fun e w' => ∃ (v' : Value) (nv : Bool), e = .returned (.tuple #[v', .bool nv]) ∧ ∃ out, Hid (Alw l cs sent out nv) ∧ IsSps w' v' out ∧ Below w.heap.size w w' := by
  have HX := Lib.hid hx
  have HY := Lib.hid hy
  have HCO := Lib.hid hc
  have HST := Lib.hid (starts_any l v sent cs.length w hx hl hr hs0 hs)
  have HEX : Hid (∀ v u d w, IsRts w v l → IsSps w u cs → Calls Try.prog 36 #[v, u, .int .i64 d] w fun e w' => e = .returned (.int .i64 (excF l cs d)) ∧ Below w.heap.size w w') := fun v u d w h1 h2 => refExcess_any l cs v u d w h1 h2 (by omega) hcl hc
  have HEB : Hid (∀ d, 0 ≤ excF l cs d ∧ excF l cs d ≤ 1000000) := fun d => excF_B (by omega) hcl hc
  obtain ⟨a0, c0, rfl, -, -⟩ := hx.open
  obtain ⟨a1, c1, rfl, -, -, -⟩ := hy.open
  clear hx hy hr hc
  go_enter Try.func19, Try.ntmps19
  go_wp2_with fail
  refine HST.out.mono ?_
  rintro e w1 ⟨v1, rfl, ds, HSEG, hdl, hv1, hb1⟩
  have HX1 := Lib.hid (HX.out.below hb1)
  have HY1 := Lib.hid (HY.out.below hb1)
  have HD1 := Lib.hid hv1
  have HB1 := Lib.hid hb1
  obtain ⟨ad, cd, rfl, -, -, -⟩ := hv1.open
  clear hb1 hv1 HST HX HY
  go_wp2_with fail
  refine (HEX.out _ _ _ _ HX1.out HY1.out).mono ?_
  rintro e w2 ⟨rfl, hb2⟩
  have HX2 := Lib.hid (HX1.out.below hb2)
  have HY2 := Lib.hid (HY1.out.below hb2)
  have HD2 := Lib.hid (HD1.out.below hb2)
  have HB2 := Lib.hid (Below.to HB1.out hb2 HB1.out.size)
  obtain ⟨E0, hE0⟩ : ∃ E0, excF l cs (-1) = E0 := ⟨_, rfl⟩
  have hEB := HEB.out (-1)
  rw [hE0] at hEB ⊢
  have HL0 : Hid (LeastAt l cs ds 0 E0) := by show LeastAt _ _ _ _ _; rw [← hE0]; exact LeastAt.start l cs ds
  have HE0 := Lib.hid hE0
  obtain ⟨hE1, hE2⟩ := hEB
  obtain ⟨_, hlen⟩ := HSEG.out.last hs
  have hdl1 : 1 < ds.length := by assumption
  clear hb2 HX1 HY1 HD1 HB1 hE0 hlen
  go_wp2_with fail
  go_loopw [10, 11] (fun a i wr => ∃ (k : Nat) (t : Int), a = .int .i64 t ∧ i = .int .i64 k ∧ k + 1 ≤ ds.length ∧ 0 ≤ t ∧ t ≤ 1000000 ∧ Hid (LeastAt l cs ds k t) ∧ Hid (Below w2.heap.size w2 wr)) (fun _ i _ => ds.length - (intOf i).toNat)
  case atStart => exact ⟨0, E0, rfl, rfl, by omega, hE1, hE2, HL0, Lib.hid (Below.refl _ _)⟩
  case round =>
    obtain ⟨k, t, rfl, rfl, hk, ht0, ht1, HLT, HBR⟩ := hrel
    have ek : IntKind.i64.wrap ((k : Int) + 1) = ((k + 1 : Nat) : Int) := by rw [IntKind.wrap_i64]; omega
    by_cases hkl : k + 1 < ds.length
    · have hkd : k < ds.length := by omega
      obtain ⟨_, _, e5, -, -, hcd⟩ := (HD2.out.below HBR.out).open
      simp only [Value.slice.injEq, true_and] at e5
      obtain ⟨rfl, rfl⟩ := e5
      obtain ⟨b, off, rfl, d0⟩ := hcd k hkd
      have HEC := Lib.hid (HEX.out _ _ ds[k] _ (HX2.out.below HBR.out) (HY2.out.below HBR.out))
      have hB := HEB.out ds[k]
      have HL1 := Lib.hid (fun h => HLT.out.less hkd h)
      have HL2 := Lib.hid (fun h => HLT.out.same hkd h)
      have hkI : ((k + 1 : Nat) : Int) < (ds.length : Int) := by omega
      generalize ds[k] = y at *
      generalize excF l cs y = E at *
      obtain ⟨hB1, hB2⟩ := hB
      clear hcd HLT
      by_cases hlt : E < t
      · have HN := Lib.hid (HL1.out hlt)
        have hm : min t E = E := by omega
        clear HL1 HL2
        go_wp2_with fail
        refine HEC.out.mono ?_
        rintro e w3 ⟨rfl, hb3⟩
        have HB3 := Lib.hid (Below.to HBR.out hb3 HBR.out.size)
        clear hb3
        go_wp2_with fail
        go_roundw
        case rel => exact ⟨k + 1, E, rfl, by go_num, by omega, hB1, hB2, HN, HB3⟩
        case measure => simp [intOf]; omega
      · have HN := Lib.hid (HL2.out (by omega))
        have hm : min t E = t := by omega
        have hge : t ≤ E := by omega
        clear HL1 HL2 hlt
        go_wp2_with fail
        refine HEC.out.mono ?_
        rintro e w3 ⟨rfl, hb3⟩
        have HB3 := Lib.hid (Below.to HBR.out hb3 HBR.out.size)
        clear hb3
        go_wp2_with fail
        go_roundw
        case rel => exact ⟨k + 1, t, rfl, by go_num, by omega, ht0, ht1, HN, HB3⟩
        case measure => simp [intOf]; omega
    · obtain hkd : k + 1 = ds.length := by omega
      have HKD := Lib.hid hkd
      obtain ⟨wo, rfl⟩ : ∃ wo : World, wo = wr := ⟨_, rfl⟩
      have HX3 := Lib.hid (HX2.out.below HBR.out)
      have HY3 := Lib.hid (HY2.out.below HBR.out)
      have HD3 := Lib.hid (HD2.out.below HBR.out)
      have HB3 := Lib.hid (Below.to HB2.out HBR.out HB2.out.size)
      have hs3 := HB3.out.size
      have hnk : ¬ (((k + 1 : Nat) : Int) < (ds.length : Int)) := by omega
      clear HX2 HY2 HD2 HBR hkd hkl
      go_wp2_with fail
      go_loopw [12, 13] (fun o i wr => ∃ (j : Nat) (v12 : Value) (out : List (Int × Int)), v12 = o ∧ i = .int .i64 j ∧ j ≤ k ∧ Hid (PickAt l cs ds t j out) ∧ Hid (wr.ownsRow wo.heap.size 44 2 v12 out.length (spCells out)) ∧ Hid (Below wo.heap.size wo wr)) (fun _ i _ => ds.length - (intOf i).toNat)
      case atStart => exact ⟨0, _, [], rfl, rfl, Nat.zero_le _, Lib.hid (PickAt.start l cs ds t), Lib.hid (World.ownsRow_nil _ _ _ _), Lib.hid (Below.refl _ _)⟩
      case round =>
        obtain ⟨j, v12, out, rfl, rfl, hj, HPK, HOW, HBQ⟩ := hrel
        have ej : IntKind.i64.wrap ((j : Int) + 1) = ((j + 1 : Nat) : Int) := by rw [IntKind.wrap_i64]; omega
        have hol := HPK.out.len
        by_cases hjk : j < k
        · have hk2 := HKD.out
          have hj1 : j + 1 < ds.length := by omega
          have hj0 : j < ds.length := by omega
          obtain ⟨_, _, e5, -, -, hcd⟩ := (HD3.out.below HBQ.out).open
          simp only [Value.slice.injEq, true_and] at e5
          obtain ⟨rfl, rfl⟩ := e5
          obtain ⟨b, off, rfl, d0⟩ := hcd j hj0
          obtain ⟨_, _, e6, d1⟩ := hcd (j + 1) hj1
          simp only [Option.some.injEq, Addr.mk.injEq, and_true] at e6
          obtain ⟨rfl, rfl⟩ := e6
          have hblt := World.block_lt_of_cell? _ _ d0
          obtain ⟨ax, _, ex, -, -, hcx⟩ := HD3.out.open
          simp only [Value.slice.injEq] at ex
          obtain ⟨bx, ox, ea, x0⟩ := hcx j hj0
          obtain ⟨bx', ox', ea', x1⟩ := hcx (j + 1) hj1
          rw [← ex.1] at ea ea'
          simp only [Option.some.injEq, Addr.mk.injEq, and_true] at ea ea'
          obtain ⟨rfl, rfl⟩ := ea
          obtain ⟨rfl, rfl⟩ := ea'
          have hbw := World.block_lt_of_cell? _ _ x0
          have X0 := Lib.hid x0
          have X1 := Lib.hid x1
          clear hcx ex x0 x1
          have HEC := Lib.hid (HEX.out _ _ ds[j] _ (HX3.out.below HBQ.out) (HY3.out.below HBQ.out))
          have HP1 := Lib.hid (fun h => HPK.out.skip hj0 h)
          have HP2 := Lib.hid (fun h => HPK.out.take HSEG.out hs0 hs hj1 h)
          obtain ⟨g1, g2, g3, -⟩ := HSEG.out.same (cs := cs) hs0 hs hj1
          have hjI : ((j + 1 : Nat) : Int) < (ds.length : Int) := by omega
          have hjI2 : (j : Int) + 1 < (ds.length : Int) := by omega
          have hjI3 : (0 : Int) ≤ (j : Int) + 1 := by omega
          generalize ds[j] = y at *
          generalize ds[j + 1] = z at *
          have eC : excF l cs y = excF l cs y := rfl
          generalize excF l cs y = E at *
          have ez : IntKind.i64.wrap (z - 1) = z - 1 := by rw [IntKind.wrap_i64]; omega
          clear hcd HPK hk2 eC
          by_cases heq : E = t
          · have HN := Lib.hid (HP2.out heq)
            have hbq : (E == t) = true := by simpa using heq
            obtain ⟨a12, c12, rfl, -, -⟩ := owns_slice HOW.out
            clear HP1 HP2 heq
            go_wp2_with fail
            refine HEC.out.mono ?_
            rintro e w4 ⟨rfl, hb4⟩
            have f0 := (hb4.cell (p := ⟨b, off + j, none⟩) hblt).trans d0
            have f1 := (hb4.cell (p := ⟨b, off + (j + 1), none⟩) hblt).trans d1
            have HB4 := Lib.hid (Below.to HBQ.out hb4 HBQ.out.size)
            have HO4 := Lib.hid (owns_below HOW.out hb4)
            have hs4 := HB4.out.size
            have hblt4 : b < w4.heap.size := Nat.lt_of_lt_of_le hblt hb4.size
            have HLIT : Hid (∀ W : World, Rd (W.alloc (.cells (litSp (y, z - 1)) 44)) (.slice (some ⟨W.heap.size, 0, none⟩) 1 1) 2 1 (spRow (y, z - 1))) := fun W => Rd.lit W (litSp (y, z - 1)) 44 2 1 rfl (by unfold maxLen; omega)
            have HBL : Hid (Below w4.heap.size w4 (w4.alloc (.cells (litSp (y, z - 1)) 44)).drew) := ((Below.refl _ _).alloc (Nat.le_refl _) _).drew
            have HRL : Hid (Rd (w4.alloc (.cells (litSp (y, z - 1)) 44)).drew (.slice (some ⟨w4.heap.size, 0, none⟩) 1 1) 2 1 (spRow (y, z - 1))) := (HLIT.out w4).below ((Below.refl _ _).drew)
            have HN1 : Hid (out.length + 1 ≤ maxLen) := (by show _ ≤ _; unfold maxLen; omega)
            have HN2 : Hid ((out.length + 1) * 16 ≤ 140737488355328) := (by show _ ≤ _; omega)
            clear hb4 d0 d1 HBQ HOW
            go_wp2_with fail
            go_region_held3 (fun w' => w'.cell? ⟨b, off + j, none⟩ = some (.int .i64 y) ∧ w'.cell? ⟨b, off + (j + 1), none⟩ = some (.int .i64 z))
              (first
                | exact ⟨m1, m2⟩
                | go_keep)
              (first
                | (refine step_append_rd (by rfl) _ _ 33 (by rfl) wo.heap.size 44 _ 2 16 Try.underlying33 infoSp rfl (by decide) (.slice a12 out.length c12) out.length (spCells out) (by rfl) (owns_below HO4.out HBL.out) _ 1 (spRow (y, z - 1)) (by rfl) HRL.out (spCells_one [(y, z - 1)]) HN1.out HN2.out (Nat.le_trans hs4 HBL.out.size) ?_
                   intro v8 w8 hv8 hg8
                   have hb8 : Below wo.heap.size wo w8 := below_append (Below.to HB4.out HBL.out hs4) (owns_below HO4.out HBL.out) hg8 (Nat.le_trans hs4 HBL.out.size)
                   have m1 : w8.cell? ⟨b, off + j, none⟩ = some (.int .i64 y) := (hb8.cell (p := ⟨b, off + j, none⟩) hbw).trans X0.out
                   have m2 : w8.cell? ⟨b, off + (j + 1), none⟩ = some (.int .i64 z) := (hb8.cell (p := ⟨b, off + (j + 1), none⟩) hbw).trans X1.out
                   have HB8 := Lib.hid hb8
                   have HV8 := Lib.hid hv8
                   clear hv8 hg8 hb8))
            have HO8 : Hid (w8.ownsRow wo.heap.size 44 2 v8 (out ++ [(y, z - 1)]).length (spCells (out ++ [(y, z - 1)]))) := by
              show World.ownsRow _ _ _ _ _ _ _
              rw [spCells_append, spCells_single, List.length_append, List.length_singleton]
              exact HV8.out
            clear HV8 m1 m2
            go_wp2_with fail
            go_roundw
            case rel => exact ⟨j + 1, _, _, rfl, by go_num, by omega, HN, HO8, HB8⟩
            case measure => simp [intOf]; omega
          · have HN := Lib.hid (HP1.out heq)
            have hbq : (E == t) = false := by simpa using heq
            clear HP1 HP2 heq
            go_wp2_with fail
            refine HEC.out.mono ?_
            rintro e w4 ⟨rfl, hb4⟩
            have HB4 := Lib.hid (Below.to HBQ.out hb4 HBQ.out.size)
            have HO4 := Lib.hid (owns_below HOW.out hb4)
            clear hb4 HBQ HOW
            go_wp2_with fail
            go_roundw
            case rel => exact ⟨j + 1, _, out, rfl, by go_num, by omega, HN, HO4, HB4⟩
            case measure => simp [intOf]; omega
        · obtain rfl : j = k := by omega
          have hjI : ¬ (((j + 1 : Nat) : Int) < (ds.length : Int)) := by have := HKD.out; omega
          have HALW : Hid (Alw l cs sent (mrg out) (decide (E0 = t))) := by
            show Alw _ _ _ _ _
            rw [← HE0.out]
            exact HPK.out.done HLT.out HKD.out.symm HSEG.out hs0 hs
          have HMG := Lib.hid (refMerge_any out v12 wr (IsSps.of_owns HOW.out) (by omega) (fun s hs' => by have := HPK.out.lo s hs'; have := HPK.out.val s hs'; omega) HPK.out.val (fun s hs' => (HPK.out.lo s hs').1))
          have HB5 := Lib.hid (Below.to HB3.out HBQ.out hs3)
          have hde : (E0 == t) = decide (E0 = t) := rfl
          clear HPK HOW HBQ HLT
          go_wp2_with fail
          refine HMG.out.mono ?_
          rintro e w9 ⟨v9, rfl, hv9, hb9⟩
          have HV9 := Lib.hid hv9
          have HB9 := Lib.hid (Below.to HB5.out hb9 HB5.out.size)
          clear hv9 hb9
          go_wp2_with fail
          go_ret2
          exact ⟨v9, _, rfl, mrg out, HALW, HV9.out, HB9.out⟩

theorem servedF_none {out : List (Int × Int)} {nv : Bool} (h : nv = true ∨ out = []) : servedF out nv = (0, false) := by
  unfold servedF
  rcases h with h | h
  · rw [if_pos h]
  · subst h
    split <;> rfl
theorem servedF_some {out : List (Int × Int)} (h : 0 < out.length) : servedF out false = (out[out.length - 1].2, true) := by
  unfold servedF
  rw [if_neg (by simp), List.getLast?_eq_getElem?, List.getElem?_eq_getElem (by omega)]

/-- How both Served read a list of spans: by one text. -/
theorem refServed_any (l : List Ret) (cs : List (Int × Int)) (v u : Value) (sent : Int) (w : World) (hx : IsRts w v l) (hy : IsSps w u cs) (hl : l.length ≤ 100) (hcl : cs.length ≤ 1000) (hr : RetsOk cs.length l) (hc : CarOk cs) (hs0 : 0 ≤ sent) (hs : sent ≤ 3652058) :
    Calls Try.prog 21 #[v, u, .int .i64 sent] w fun e w' => ∃ (x : Int) (b : Bool), e = .returned (.tuple #[.int .i64 x, .bool b]) ∧ ∃ out nv, Hid (Alw l cs sent out nv) ∧ Hid ((x, b) = servedF out nv) ∧ Below w.heap.size w w' := by
  have HA := Lib.hid (refAllowed_any l cs v u sent w hx hy hl hcl hr hc hs0 hs)
  obtain ⟨a0, c0, rfl, -, -⟩ := hx.open
  obtain ⟨a1, c1, rfl, -, -, -⟩ := hy.open
  clear hx hy hr hc
  go_enter Try.func21, Try.ntmps21
  go_wp2_with fail
  refine HA.out.mono ?_
  rintro e w1 ⟨v1, nv, rfl, out, HALW, hv1, hb1⟩
  have HB1 := Lib.hid hb1
  cases nv with
  | true =>
    have HR : Hid (((0 : Int), false) = servedF out true) := (servedF_none (.inl rfl)).symm
    clear hv1 hb1 HA
    go_wp2_with fail
    go_ret2
    exact ⟨0, false, rfl, out, true, HALW, HR, HB1.out⟩
  | false =>
    obtain ⟨av, cv, rfl, hm, -, -⟩ := hv1.open
    unfold maxLen at hm
    by_cases h0 : out.length = 0
    · have hn : out = [] := List.eq_nil_of_length_eq_zero h0
      subst hn
      have HR : Hid (((0 : Int), false) = servedF [] false) := (servedF_none (.inr rfl)).symm
      clear hv1 hb1 HA h0
      go_wp2_with fail
      go_ret2
      exact ⟨0, false, rfl, [], false, HALW, HR, HB1.out⟩
    · have hpos : 0 < out.length := by omega
      have HR := Lib.hid (servedF_some hpos)
      obtain ⟨b5, o5, q5, e5, -, -, d1⟩ := hv1.at (k := out.length - 1) (by omega)
      simp only [Value.slice.injEq, true_and] at e5
      obtain ⟨rfl, -⟩ := e5
      have hz : (out.length == 0) = false := by simpa using h0
      have hsub : IntKind.i64.wrap ((out.length : Int) - 1) = ((out.length - 1 : Nat) : Int) := by rw [IntKind.wrap_i64]; omega
      have hlt : ((out.length - 1 : Nat) : Int) < (out.length : Int) := by omega
      generalize out[out.length - 1].2 = y at *
      clear hv1 hb1 HA h0
      generalize hn : out.length - 1 = n at *
      have HN := Lib.hid hn
      clear hn
      go_wp2_with fail
      go_ret2
      exact ⟨y, true, rfl, out, false, HALW, HR.out.symm, HB1.out⟩

end Go.Proofs.Ytbiedadgejgnoaa
