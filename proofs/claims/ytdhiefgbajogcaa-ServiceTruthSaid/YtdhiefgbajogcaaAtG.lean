/-
  The generator of attempts.
-/
import Derived.Test.YtdhiefgbajogcaaRtVG
import Derived.Test.YtdhiefgbajogcaaRtJ
import Derived.Test.YtdhiefgbajogcaaSvG
namespace Go.Proofs.Ytdhiefgbajogcaa
open Go.RowKit

/-- One attempt that the generator makes. -/
def GenAt (n : Nat) (a : At) : Prop := (0 ≤ a.ent ∧ a.ent < 5) ∧ (0 ≤ a.par ∧ a.par < 3) ∧ (0 ≤ a.car ∧ a.car < n) ∧ (739616 ≤ a.sent ∧ a.sent < 739646) ∧ RetsOk n a.own ∧ a.own.length ≤ 8 ∧ NearR a.sent a.own

def GenAts (n : Nat) (l : List At) : Prop := ∀ a ∈ l, GenAt n a

theorem GenAts.snoc {n : Nat} {l : List At} {a : At} (h : GenAts n l) (ha : GenAt n a) : GenAts n (l ++ [a]) := fun b hb => by
  rcases List.mem_append.1 hb with g | g
  · exact h b g
  · rcases List.mem_singleton.1 g with rfl
    exact ha

theorem IsInts.part {w : World} {ad : Option Addr} {cap : Nat} {l : List Int} (h : IsInts w (.slice ad l.length cap) l) (i j : Nat) (hij : i ≤ j) (hj : j ≤ l.length) :
    IsInts w (.slice (if cap = i then ad else Option.map (fun x => x.add i) ad) (j - i) (cap - i)) ((l.take j).drop i) := by
  obtain ⟨h1, h2, a', cap', hv, hn, hc⟩ := h
  simp only [Value.slice.injEq] at hv
  obtain ⟨rfl, -, rfl⟩ := hv
  have hl : ((l.take j).drop i).length = j - i := by rw [List.length_drop, List.length_take]; omega
  refine ⟨by simp [ints], by omega, _, _, by rw [hl], by omega, fun q u hu => ?_⟩
  have hq : q < j - i := by
    have := (List.getElem?_eq_some_iff.1 hu).1
    simp [ints] at this
    omega
  have hu' : (ints l)[i + q]? = some u := by
    have hg : (ints ((l.take j).drop i))[q]? = (ints l)[i + q]? := by
      simp only [ints, List.getElem?_map, List.getElem?_drop]
      rw [List.getElem?_take_of_lt (by omega)]
    rw [← hg]; exact hu
  obtain ⟨b, off, rfl, hcell⟩ := hc (i + q) u hu'
  have hci : ¬ cap = i := by omega
  rw [if_neg hci]
  by_cases hi0 : i = 0
  · subst hi0
    exact ⟨b, off, rfl, by simpa using hcell⟩
  · refine ⟨b, off + i, ?_, ?_⟩
    · simp [Addr.add, hi0]
    · rw [show off + i + q = off + (i + q) from by omega]
      exact hcell

set_option maxHeartbeats 4000000 in
set_option maxRecDepth 100000 in
theorem attempts_any (l : List Int) (cs : List (Int × Int)) (v u : Value) (w : World) (hx : IsInts w v l) (hl : ∀ x ∈ l, I64 x) (hy : IsSps w u cs) (h1 : 1 ≤ cs.length) (h4 : cs.length ≤ 4) :
    Calls Try.prog 16 #[v, u] w fun e w' => ∃ v', e = .returned v' ∧ ∃ ats, Hid (GenAts cs.length ats ∧ ats.length ≤ 8) ∧ (∃ us, OwnAts w' w.heap.size 29 37 v' ats us ats.length) ∧ Below w.heap.size w w' := by
  have HX := Lib.hid hx
  have HY := Lib.hid hy
  obtain ⟨ad, cap, rfl, hlm, hcap, -⟩ := hx.open
  unfold maxLen at hlm
  obtain ⟨a1, c1, rfl, -, -, -⟩ := hy.open
  have HL := Lib.hid hl
  clear hx hl hy
  obtain ⟨m, hm⟩ : ∃ m, cs.length = m := ⟨_, rfl⟩
  have HM := Lib.hid hm
  rw [hm] at h1 h4 ⊢
  clear hm
  have hmx : max (m : Int) 1 = (m : Int) := by omega
  go_enter Try.func16, Try.ntmps16
  go_wp2_with fail
  go_loopw [5, 6] (fun o iv wr => ∃ (k i : Nat) (v7 : Value) (ats : List At) (us : List Value), v7 = o ∧ iv = .int .i64 i ∧ k ≤ 8 ∧ Hid (i = 8 * k) ∧ ats.length = k ∧ Hid (GenAts m ats) ∧ Hid (OwnAts wr w.heap.size 29 37 v7 ats us ats.length) ∧ Hid (Below w.heap.size w wr)) (fun _ i _ => 200 - (intOf i).toNat)
  case atStart => exact ⟨0, 0, _, [], [], rfl, rfl, by omega, Lib.hid rfl, rfl, Lib.hid (fun c hc => by cases hc), Lib.hid (OwnAts.nil _ _ _ _), Lib.hid (Below.refl _ _)⟩
  case round =>
    obtain ⟨k, i, v7, ats, us, rfl, rfl, hk, HIK, hak, HG, HO, HBR⟩ := hrel
    have hi64 : i ≤ 64 := by have := HIK.out; omega
    have e1 : IntKind.i64.wrap ((i : Int) + 1) = ((i + 1 : Nat) : Int) := by rw [IntKind.wrap_i64]; omega
    by_cases hgo : ((i + 1 : Nat) : Int) < (l.length : Int) ∧ (k : Int) < 8
    · obtain ⟨hg1, hg2⟩ := hgo
      obtain ⟨a3, c3, rfl, -, -⟩ := owns_slice HO.out.row
      rw [hak]
      have hsz := HBR.out.size
      have e2 : IntKind.i64.wrap ((i : Int) + 2) = ((i + 2 : Nat) : Int) := by rw [IntKind.wrap_i64]; omega
      have e3 : IntKind.i64.wrap ((i : Int) + 3) = ((i + 3 : Nat) : Int) := by rw [IntKind.wrap_i64]; omega
      have e4 : IntKind.i64.wrap ((i : Int) + 4) = ((i + 4 : Nat) : Int) := by rw [IntKind.wrap_i64]; omega
      have e8 : IntKind.i64.wrap ((i : Int) + 8) = ((i + 8 : Nat) : Int) := by rw [IntKind.wrap_i64]; omega
      have HP0 : Hid (∀ X, Below w.heap.size w X → Calls Try.prog 28 #[.slice ad l.length cap, .int .i64 i, .int .i64 5] X fun e w' => e = .returned (.int .i64 (pickF l i 5)) ∧ X = w') := fun X hX => pick3_any l _ i 5 X (HX.out.below hX) HL.out (by omega) (by omega) (by omega)
      have HP1 : Hid (∀ X, Below w.heap.size w X → Calls Try.prog 28 #[.slice ad l.length cap, .int .i64 ((i : Int) + 1), .int .i64 3] X fun e w' => e = .returned (.int .i64 (pickF l (i + 1) 3)) ∧ X = w') := fun X hX => (by have h := pick3_any l _ (i + 1) 3 X (HX.out.below hX) HL.out (by omega) (by omega) (by omega); rw [Int.natCast_add] at h; exact h)
      have HP2 : Hid (∀ X, Below w.heap.size w X → Calls Try.prog 28 #[.slice ad l.length cap, .int .i64 ((i : Int) + 2), .int .i64 m] X fun e w' => e = .returned (.int .i64 (pickF l (i + 2) m)) ∧ X = w') := fun X hX => (by have h := pick3_any l _ (i + 2) m X (HX.out.below hX) HL.out (by omega) (by omega) (by omega); rw [Int.natCast_add] at h; exact h)
      have HP3 : Hid (∀ X, Below w.heap.size w X → Calls Try.prog 28 #[.slice ad l.length cap, .int .i64 ((i : Int) + 3), .int .i64 30] X fun e w' => e = .returned (.int .i64 (pickF l (i + 3) 30)) ∧ X = w') := fun X hX => (by have h := pick3_any l _ (i + 3) 30 X (HX.out.below hX) HL.out (by omega) (by omega) (by omega); rw [Int.natCast_add] at h; exact h)
      have HP4 : Hid (∀ X, Below w.heap.size w X → Calls Try.prog 28 #[.slice ad l.length cap, .int .i64 ((i : Int) + 3), .int .i64 5] X fun e w' => e = .returned (.int .i64 (pickF l (i + 3) 5)) ∧ X = w') := fun X hX => (by have h := pick3_any l _ (i + 3) 5 X (HX.out.below hX) HL.out (by omega) (by omega) (by omega); rw [Int.natCast_add] at h; exact h)
      have q0 := pickF_in l i 5 (by omega)
      have q1 := pickF_in l (i + 1) 3 (by omega)
      have q2 := pickF_in l (i + 2) m (by omega)
      have q3 := pickF_in l (i + 3) 30 (by omega)
      have q4 := pickF_in l (i + 3) 5 (by omega)
      generalize pickF l i 5 = P0 at *
      generalize pickF l (i + 1) 3 = P1 at *
      generalize pickF l (i + 2) m = P2 at *
      generalize pickF l (i + 3) 30 = P3 at *
      generalize pickF l (i + 3) 5 = P4' at *
      obtain ⟨P4, rfl⟩ := Int.eq_ofNat_of_zero_le q4.1
      have e5 : IntKind.i64.wrap (739616 + P3) = 739616 + P3 := by rw [IntKind.wrap_i64]; omega
      have e6 : IntKind.i64.wrap ((i : Int) + 4 + (P4 : Int)) = (i : Int) + 4 + (P4 : Int) := by rw [IntKind.wrap_i64]; omega
      obtain ⟨La, hLa⟩ : ∃ La : Nat, La = min (i + 4 + P4) l.length := ⟨_, rfl⟩
      obtain ⟨Lo, hLo⟩ : ∃ Lo : Nat, Lo = min (i + 4) La := ⟨_, rfl⟩
      have em1 : min ((i : Int) + 4 + (P4 : Int)) (l.length : Int) = (La : Int) := by omega
      have em2 : min ((i : Int) + 4) (La : Int) = (Lo : Int) := by omega
      have hl1 : Lo ≤ La := by omega
      have hl2 : La ≤ l.length := by omega
      have hl3 : La ≤ cap := by omega
      obtain ⟨B, hB⟩ : ∃ B, B = wr.heap.size := ⟨_, rfl⟩
      obtain ⟨W1, hW1⟩ : ∃ W1, W1 = wr.alloc (.cells #[.int .i64 P0, .int .i64 P1, .int .i64 P2, .int .i64 0, .slice none 0 0] 29) := ⟨_, rfl⟩
      have hC1 : W1.heap[B]? = some (.cells #[.int .i64 P0, .int .i64 P1, .int .i64 P2, .int .i64 0, .slice none 0 0] 29) := by rw [hW1, hB]; exact heap_alloc_new wr _
      have HB1 : Hid (Below wr.heap.size wr W1) := by show Below _ _ _; rw [hW1]; exact (Below.refl _ _).alloc (Nat.le_refl _) _
      have HS1 : Hid (B < W1.heap.size) := by show _ < _; rw [hW1, hB]; simp
      have HBB := Lib.hid hB
      have HWW := Lib.hid hW1
      have HBT := Lib.hid (Below.to HBR.out HB1.out hsz)
      have HBZ : Hid (w.heap.size ≤ B) := by show _ ≤ _; rw [hB]; exact hsz
      have hC2 : (W1.setCell ⟨B, 3, none⟩ (.int .i64 (739616 + P3))).heap[B]? = some (.cells #[.int .i64 P0, .int .i64 P1, .int .i64 P2, .int .i64 (739616 + P3), .slice none 0 0] 29) := heap_setCell_same W1 B 3 _ _ _ hC1
      have HC2 := Lib.hid hC2
      obtain ⟨⟨y0, y1, y2, y3, y4⟩, yf⟩ := five_of hC1
      have yf3 := yf 3
      obtain ⟨⟨z0, z1, z2, z3, z4⟩, -⟩ := five_of hC2
      clear hB hW1 hLa hLo hC1 hC2 yf
      go_wp2_with fail
      refine (HP0.out _ HBR.out).mono ?_
      rintro e w' ⟨rfl, rfl⟩
      go_wp2_with fail
      refine (HP1.out _ HBR.out).mono ?_
      rintro e w' ⟨rfl, rfl⟩
      go_wp2_with fail
      refine (HP2.out _ HBR.out).mono ?_
      rintro e w' ⟨rfl, rfl⟩
      go_wp2_with fail
      rw [← HWW.out, ← HBB.out]
      refine (HP3.out _ HBT.out).mono ?_
      rintro e w' ⟨rfl, rfl⟩
      go_wp2_with fail
      have HB2 : Hid (Below wr.heap.size wr (W1.setCell ⟨B, 3, none⟩ (.int .i64 (739616 + P3)))) := HB1.out.setCell (p := ⟨B, 3, none⟩) (by rw [HBB.out]; exact Nat.le_refl _) _
      have HS2 : Hid (B < (W1.setCell ⟨B, 3, none⟩ (.int .i64 (739616 + P3))).heap.size) := by show _ < _; simp [World.setCell]; exact HS1.out
      obtain ⟨W2, hW2⟩ : ∃ W2, W2 = W1.setCell ⟨B, 3, none⟩ (.int .i64 (739616 + P3)) := ⟨_, rfl⟩
      rw [← hW2] at HB2 HS2 HC2 z0 z1 z2 z3 z4
      rw [← hW2]
      clear hW2 y0 y1 y2 y3 y4 yf3
      have HBU := Lib.hid (Below.to HBR.out HB2.out hsz)
      refine (HP4.out _ HBU.out).mono ?_
      rintro e w' ⟨rfl, rfl⟩
      go_wp2_with fail
      obtain ⟨VA, hVA⟩ : ∃ VA, VA = (if cap = Lo then ad else Option.map (fun x => x.add Lo) ad) := ⟨_, rfl⟩
      have HPT : Hid (∀ X, Below w.heap.size w X → IsInts X (.slice VA (La - Lo) (cap - Lo)) ((l.take La).drop Lo)) := fun X hX => by rw [hVA]; exact IsInts.part (HX.out.below hX) Lo La hl1 hl2
      have HPL : Hid (∀ x ∈ (l.take La).drop Lo, I64 x) := fun x hx => HL.out x (List.mem_of_mem_take (List.mem_of_mem_drop hx))
      have HRT : Hid (∀ X, Below w.heap.size w X → Calls Try.prog 35 #[.slice VA (La - Lo) (cap - Lo), .slice a1 m c1, .int .i64 (739616 + P3)] X fun e w' => ∃ v', e = .returned v' ∧ ∃ rs, Hid (RetsOk m rs ∧ rs.length ≤ 8 ∧ NearR (739616 + P3) rs) ∧ w'.ownsRow X.heap.size 37 4 v' rs.length (rtCells rs) ∧ Below X.heap.size X w') := fun X hX => by
        have h := returns_any _ cs _ _ (739616 + P3) X (HPT.out X hX) HPL.out (HY.out.below hX) (by rw [HM.out]; exact h1) (by rw [HM.out]; exact h4) (by omega) (by omega)
        rw [HM.out] at h
        exact h
      have HBD : Hid (Below w.heap.size w W2.drew) := HBU.out.drew
      have hz2 : w.heap.size ≤ W2.heap.size := HBU.out.size
      clear HPT HPL hl2 em1
      rcases Classical.em (cap = Lo) with hcl | hcl
      · rw [if_pos hcl] at hVA
        subst hVA
        have hLc : La = cap := by omega
        subst hcl
        subst hLc
        simp only [Nat.sub_self] at HRT
        go_region_held3 (fun w' => w'.cell? ⟨B, 3, none⟩ = some (.int .i64 (739616 + P3)))
          (first | exact z3 | exact (five_of (heap_setCell_same _ B 4 _ _ _ HC4.out)).1.2.2.2.1 | exact y3 | go_keep)
          (first
            | (go_at_call 35
               refine (HRT.out _ HBD.out).mono ?_
               rintro e w4 ⟨u4, rfl, rs, hrs, hu4, hb4⟩
               obtain ⟨xa, xc, rfl, -, -⟩ := owns_slice hu4
               have HRS := Lib.hid hrs.out
               have HU4 : Hid (w4.ownsRow W2.heap.size 37 4 (.slice xa rs.length xc) rs.length (rtCells rs)) := hu4
               have HB4 : Hid (Below W2.heap.size W2 w4) := Below.to ((Below.refl _ _).drew) hb4 (Nat.le_refl _)
               have hC4 : w4.heap[B]? = some (.cells #[.int .i64 P0, .int .i64 P1, .int .i64 P2, .int .i64 (739616 + P3), .slice none 0 0] 29) := (HB4.out.block _ HS2.out).trans HC2.out
               have HC4 := Lib.hid hC4
               obtain ⟨⟨y0, y1, y2, y3, y4⟩, yf⟩ := five_of hC4
               have yf4 := yf 4
               clear hu4 hb4 yf hrs hC4))
        have hC5 : (w4.setCell ⟨B, 4, none⟩ (.slice xa rs.length xc)).heap[B]? = some (.cells #[.int .i64 P0, .int .i64 P1, .int .i64 P2, .int .i64 (739616 + P3), (.slice xa rs.length xc)] 29) := heap_setCell_same w4 B 4 _ _ _ HC4.out
        have HB5 : Hid (Below wr.heap.size wr (w4.setCell ⟨B, 4, none⟩ (.slice xa rs.length xc))) := (Below.to HB2.out HB4.out HB2.out.size).setCell (p := ⟨B, 4, none⟩) (by rw [HBB.out]; exact Nat.le_refl _) _
        have HU5 : Hid ((w4.setCell ⟨B, 4, none⟩ (.slice xa rs.length xc)).ownsRow W2.heap.size 37 4 (.slice xa rs.length xc) rs.length (rtCells rs)) := owns_setCell HU4.out (a := ⟨B, 4, none⟩) HS2.out _
        obtain ⟨W5, hW5⟩ : ∃ W5, W5 = w4.setCell ⟨B, 4, none⟩ (.slice xa rs.length xc) := ⟨_, rfl⟩
        rw [← hW5] at hC5 HB5 HU5
        rw [← hW5]
        clear hW5 y0 y1 y2 y3 y4 yf4
        obtain ⟨⟨y0, y1, y2, y3, y4⟩, -⟩ := five_of hC5
        clear hC5
        have hsz5 := HB5.out.size
        have HO5 := Lib.hid (HO.out.below HB5.out)
        have HB6 : Hid (Below W5.heap.size W5 (W5.alloc (.cells #[.int .i64 P0, .int .i64 P1, .int .i64 P2, .int .i64 (739616 + P3), .slice xa rs.length xc] 29))) := (Below.refl _ _).alloc (Nat.le_refl _) _
        have HO6 := Lib.hid (HO5.out.below HB6.out)
        have HU6 := Lib.hid (HU5.out.alloc (.cells #[.int .i64 P0, .int .i64 P1, .int .i64 P2, .int .i64 (739616 + P3), .slice xa rs.length xc] 29))
        have HLX : Hid (Rd (W5.alloc (.cells #[.int .i64 P0, .int .i64 P1, .int .i64 P2, .int .i64 (739616 + P3), .slice xa rs.length xc] 29)) (.slice (some ⟨W5.heap.size, 0, none⟩) 1 1) 5 1 (atRow ⟨P0, P1, P2, 739616 + P3, rs⟩ (.slice xa rs.length xc))) := atLit W5 ⟨P0, P1, P2, 739616 + P3, rs⟩ (.slice xa rs.length xc)
        have HRW : Hid ((W5.alloc (.cells #[.int .i64 P0, .int .i64 P1, .int .i64 P2, .int .i64 (739616 + P3), .slice xa rs.length xc] 29)).ownsRow w.heap.size 29 5 (.slice a3 k c3) k (atCells ats us)) := by
          show World.ownsRow _ _ _ _ _ _ _
          have h := HO6.out.row
          rw [hak] at h
          exact h
        have HGA : GenAt m ⟨P0, P1, P2, 739616 + P3, rs⟩ := ⟨q0, q1, q2, by simp only; omega, HRS.out⟩
        have HG8 := Lib.hid (GenAts.snoc HG.out HGA)
        clear HGA
        have HLT : Hid (∀ i (_ : i < us.length), ∀ b, us[i].ownBlock = some b → b < W2.heap.size) := fun i hi b hb => Nat.lt_of_lt_of_le (HO.out.lt i hi (by rw [← HO.out.len]; exact hi) b hb) HB2.out.size
        go_wp2_with (at_builtin; go_must (refine wpList_append_rd rfl _ _ 22 rfl w.heap.size 29 _ 5 56 Try.underlying22 infoAt rfl (by decide) (.slice a3 k c3) k (atCells ats us) rfl HRW.out _ 1 (atRow ⟨P0, P1, P2, 739616 + P3, rs⟩ (.slice xa rs.length xc)) rfl HLX.out (atRow_one _ rfl) ?gb1 ?gb2 ?gb3 ?_))
        case gb1 => unfold maxLen; omega
        case gb2 => omega
        case gb3 => simp; omega
        intro v8 w8 hv8 hg8
        have HB8 := Lib.hid (below_append (Below.to (Below.to HBR.out HB5.out hsz) HB6.out (Nat.le_trans hsz hsz5)) HRW.out hg8 (by simp; omega))
        have HO8 : Hid (OwnAts w8 w.heap.size 29 37 v8 (ats ++ [⟨P0, P1, P2, 739616 + P3, rs⟩]) (us ++ [Value.slice xa rs.length xc]) (ats ++ [(⟨P0, P1, P2, 739616 + P3, rs⟩ : At)]).length) := by
          show OwnAts _ _ _ _ _ _ _ _
          have h := OwnAts.push (x := ⟨P0, P1, P2, 739616 + P3, rs⟩) (u := (.slice xa rs.length xc)) (C := W2.heap.size) (by decide) HO6.out HLT.out hz2 HU6.out (by rw [hak]; exact hv8) (by rw [hak]; exact hg8)
          rw [List.length_append, List.length_singleton]
          exact h
        clear hv8 hg8
        go_wp2_with fail
        go_roundw
        case rel => exact ⟨k + 1, i + 8, _, _, _, rfl, by go_num, by omega, Lib.hid (by have := HIK.out; omega), by rw [List.length_append, List.length_singleton, hak], HG8, HO8, HB8⟩
        case measure => simp [intOf]; omega
      · rw [if_neg hcl] at hVA
        subst hVA
        go_region_held3 (fun w' => w'.cell? ⟨B, 3, none⟩ = some (.int .i64 (739616 + P3)))
          (first | exact z3 | exact (five_of (heap_setCell_same _ B 4 _ _ _ HC4.out)).1.2.2.2.1 | exact y3 | go_keep)
          (first
            | (go_at_call 35
               refine (HRT.out _ HBD.out).mono ?_
               rintro e w4 ⟨u4, rfl, rs, hrs, hu4, hb4⟩
               obtain ⟨xa, xc, rfl, -, -⟩ := owns_slice hu4
               have HRS := Lib.hid hrs.out
               have HU4 : Hid (w4.ownsRow W2.heap.size 37 4 (.slice xa rs.length xc) rs.length (rtCells rs)) := hu4
               have HB4 : Hid (Below W2.heap.size W2 w4) := Below.to ((Below.refl _ _).drew) hb4 (Nat.le_refl _)
               have hC4 : w4.heap[B]? = some (.cells #[.int .i64 P0, .int .i64 P1, .int .i64 P2, .int .i64 (739616 + P3), .slice none 0 0] 29) := (HB4.out.block _ HS2.out).trans HC2.out
               have HC4 := Lib.hid hC4
               obtain ⟨⟨y0, y1, y2, y3, y4⟩, yf⟩ := five_of hC4
               have yf4 := yf 4
               clear hu4 hb4 yf hrs hC4))
        have hC5 : (w4.setCell ⟨B, 4, none⟩ (.slice xa rs.length xc)).heap[B]? = some (.cells #[.int .i64 P0, .int .i64 P1, .int .i64 P2, .int .i64 (739616 + P3), (.slice xa rs.length xc)] 29) := heap_setCell_same w4 B 4 _ _ _ HC4.out
        have HB5 : Hid (Below wr.heap.size wr (w4.setCell ⟨B, 4, none⟩ (.slice xa rs.length xc))) := (Below.to HB2.out HB4.out HB2.out.size).setCell (p := ⟨B, 4, none⟩) (by rw [HBB.out]; exact Nat.le_refl _) _
        have HU5 : Hid ((w4.setCell ⟨B, 4, none⟩ (.slice xa rs.length xc)).ownsRow W2.heap.size 37 4 (.slice xa rs.length xc) rs.length (rtCells rs)) := owns_setCell HU4.out (a := ⟨B, 4, none⟩) HS2.out _
        obtain ⟨W5, hW5⟩ : ∃ W5, W5 = w4.setCell ⟨B, 4, none⟩ (.slice xa rs.length xc) := ⟨_, rfl⟩
        rw [← hW5] at hC5 HB5 HU5
        rw [← hW5]
        clear hW5 y0 y1 y2 y3 y4 yf4
        obtain ⟨⟨y0, y1, y2, y3, y4⟩, -⟩ := five_of hC5
        clear hC5
        have hsz5 := HB5.out.size
        have HO5 := Lib.hid (HO.out.below HB5.out)
        have HB6 : Hid (Below W5.heap.size W5 (W5.alloc (.cells #[.int .i64 P0, .int .i64 P1, .int .i64 P2, .int .i64 (739616 + P3), .slice xa rs.length xc] 29))) := (Below.refl _ _).alloc (Nat.le_refl _) _
        have HO6 := Lib.hid (HO5.out.below HB6.out)
        have HU6 := Lib.hid (HU5.out.alloc (.cells #[.int .i64 P0, .int .i64 P1, .int .i64 P2, .int .i64 (739616 + P3), .slice xa rs.length xc] 29))
        have HLX : Hid (Rd (W5.alloc (.cells #[.int .i64 P0, .int .i64 P1, .int .i64 P2, .int .i64 (739616 + P3), .slice xa rs.length xc] 29)) (.slice (some ⟨W5.heap.size, 0, none⟩) 1 1) 5 1 (atRow ⟨P0, P1, P2, 739616 + P3, rs⟩ (.slice xa rs.length xc))) := atLit W5 ⟨P0, P1, P2, 739616 + P3, rs⟩ (.slice xa rs.length xc)
        have HRW : Hid ((W5.alloc (.cells #[.int .i64 P0, .int .i64 P1, .int .i64 P2, .int .i64 (739616 + P3), .slice xa rs.length xc] 29)).ownsRow w.heap.size 29 5 (.slice a3 k c3) k (atCells ats us)) := by
          show World.ownsRow _ _ _ _ _ _ _
          have h := HO6.out.row
          rw [hak] at h
          exact h
        have HGA : GenAt m ⟨P0, P1, P2, 739616 + P3, rs⟩ := ⟨q0, q1, q2, by simp only; omega, HRS.out⟩
        have HG8 := Lib.hid (GenAts.snoc HG.out HGA)
        clear HGA
        have HLT : Hid (∀ i (_ : i < us.length), ∀ b, us[i].ownBlock = some b → b < W2.heap.size) := fun i hi b hb => Nat.lt_of_lt_of_le (HO.out.lt i hi (by rw [← HO.out.len]; exact hi) b hb) HB2.out.size
        go_wp2_with (at_builtin; go_must (refine wpList_append_rd rfl _ _ 22 rfl w.heap.size 29 _ 5 56 Try.underlying22 infoAt rfl (by decide) (.slice a3 k c3) k (atCells ats us) rfl HRW.out _ 1 (atRow ⟨P0, P1, P2, 739616 + P3, rs⟩ (.slice xa rs.length xc)) rfl HLX.out (atRow_one _ rfl) ?hb1 ?hb2 ?hb3 ?_))
        case hb1 => unfold maxLen; omega
        case hb2 => omega
        case hb3 => simp; omega
        intro v8 w8 hv8 hg8
        have HB8 := Lib.hid (below_append (Below.to (Below.to HBR.out HB5.out hsz) HB6.out (Nat.le_trans hsz hsz5)) HRW.out hg8 (by simp; omega))
        have HO8 : Hid (OwnAts w8 w.heap.size 29 37 v8 (ats ++ [⟨P0, P1, P2, 739616 + P3, rs⟩]) (us ++ [Value.slice xa rs.length xc]) (ats ++ [(⟨P0, P1, P2, 739616 + P3, rs⟩ : At)]).length) := by
          show OwnAts _ _ _ _ _ _ _ _
          have h := OwnAts.push (x := ⟨P0, P1, P2, 739616 + P3, rs⟩) (u := (.slice xa rs.length xc)) (C := W2.heap.size) (by decide) HO6.out HLT.out hz2 HU6.out (by rw [hak]; exact hv8) (by rw [hak]; exact hg8)
          rw [List.length_append, List.length_singleton]
          exact h
        clear hv8 hg8
        go_wp2_with fail
        go_roundw
        case rel => exact ⟨k + 1, i + 8, _, _, _, rfl, by go_num, by omega, Lib.hid (by have := HIK.out; omega), by rw [List.length_append, List.length_singleton, hak], HG8, HO8, HB8⟩
        case measure => simp [intOf]; omega
    · have hg7 : Hid (GenAts m ats ∧ ats.length ≤ 8) := ⟨HG.out, by omega⟩
      obtain ⟨a3, c3, rfl, -, -⟩ := owns_slice HO.out.row
      have HV : Hid (OwnAts wr w.heap.size 29 37 (.slice a3 k c3) ats us ats.length) := by
        show OwnAts _ _ _ _ _ _ _ _
        have h := HO.out
        rw [hak] at h ⊢
        exact h
      rw [hak]
      have hparts : ¬ (i : Int) + 1 < (l.length : Int) ∨ ((i : Int) + 1 < (l.length : Int) ∧ ¬ (k : Int) < 8) := by omega
      rcases hparts with hg | ⟨hg, hg'⟩
      all_goals
        clear hgo
        go_wp2_with fail
        go_ret
        exact ⟨_, rfl, ats, hg7, ⟨us, HV.out⟩, HBR.out⟩

end Go.Proofs.Ytdhiefgbajogcaa
