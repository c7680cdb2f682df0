/-
  The program's segments: an iterator over the spans of days within which the excess does not change.
-/
import Derived.Test.YtbiedadgejgnoaaRtT
import Derived.Test.YtbiedadgejgnoaaLyB
import Derived.Test.YtbiedadgejgnoaaSeqU
import Derived.Stop.RegionWithIn
namespace Go.Proofs.Ytbiedadgejgnoaa
open Go.RowKit
attribute [local go_sem] Oper.semAt_some

/-- The segments between the points. -/
def segs (ds : List Int) : List (Int × Int) := (List.range (ds.length - 1)).map (fun j => (ds.getD j 0, ds.getD (j + 1) 0 - 1))
def segTo (ds : List Int) (j : Nat) : List (Int × Int) := (List.range j).map (fun j => (ds.getD j 0, ds.getD (j + 1) 0 - 1))
theorem segTo_succ (ds : List Int) (j : Nat) : segTo ds (j + 1) = segTo ds j ++ [(ds.getD j 0, ds.getD (j + 1) 0 - 1)] := by
  unfold segTo; rw [List.range_succ, List.map_append]; rfl
theorem segTo_split {ds : List Int} {j : Nat} (h : j < ds.length - 1) : ∃ post, segs ds = segTo ds j ++ (ds.getD j 0, ds.getD (j + 1) 0 - 1) :: post := by
  have key : ∀ m, ∃ post, segTo ds (j + 1 + m) = segTo ds j ++ (ds.getD j 0, ds.getD (j + 1) 0 - 1) :: post := by
    intro m
    induction m with
    | zero => exact ⟨[], by rw [Nat.add_zero, segTo_succ]⟩
    | succ m ih =>
      obtain ⟨post, hp⟩ := ih
      exact ⟨post ++ [(ds.getD (j + 1 + m) 0, ds.getD (j + 1 + m + 1) 0 - 1)], by rw [show j + 1 + (m + 1) = j + 1 + m + 1 from rfl, segTo_succ, hp]; simp⟩
  obtain ⟨post, hp⟩ := key (ds.length - 1 - (j + 1))
  refine ⟨post, ?_⟩
  rw [← hp]
  unfold segs segTo
  congr 2
  omega

/-- What the iterator has gathered of the candidates C. -/
def DyAt (sent : Int) (C days : List Int) : Prop := ∀ x, x ∈ days ↔ (x = sent ∨ x = 3652059 ∨ (sent < x ∧ x ≤ 3652058 ∧ x ∈ C))
theorem DyAt.start (sent : Int) : DyAt sent [] [sent, 3652059] := fun x => by simp
theorem DyAt.skip {sent y : Int} {C days : List Int} (h : DyAt sent C days) (hn : ¬ (sent < y ∧ y ≤ 3652058)) : DyAt sent (C ++ [y]) days := fun x => by
  rw [h x, List.mem_append, List.mem_singleton]
  constructor
  · rintro (e | e | ⟨a, b, c⟩)
    · exact .inl e
    · exact .inr (.inl e)
    · exact .inr (.inr ⟨a, b, .inl c⟩)
  · rintro (e | e | ⟨a, b, c | rfl⟩)
    · exact .inl e
    · exact .inr (.inl e)
    · exact .inr (.inr ⟨a, b, c⟩)
    · exact absurd ⟨a, b⟩ hn
theorem DyAt.add {sent y : Int} {C days : List Int} (h : DyAt sent C days) (h1 : sent < y) (h2 : y ≤ 3652058) : DyAt sent (C ++ [y]) (days ++ [y]) := fun x => by
  rw [List.mem_append, List.mem_append, List.mem_singleton, h x]
  constructor
  · rintro ((e | e | ⟨a, b, c⟩) | rfl)
    · exact .inl e
    · exact .inr (.inl e)
    · exact .inr (.inr ⟨a, b, .inl c⟩)
    · exact .inr (.inr ⟨h1, h2, .inr rfl⟩)
  · rintro (e | e | ⟨a, b, c | rfl⟩)
    · exact .inl (.inl e)
    · exact .inl (.inr (.inl e))
    · exact .inl (.inr (.inr ⟨a, b, c⟩))
    · exact .inr rfl
theorem DyAt.seg {l : List Ret} {sent : Int} {days ys : List Int} (h : DyAt sent (cands l) days) (hp : ys.Perm days) (hs : ys.Pairwise (· ≤ ·)) : SegPts l sent (Lib.compact ys) := by
  obtain ⟨h1, h2⟩ := compact_law hs
  refine ⟨h1, fun x => ?_⟩
  rw [h2, hp.mem_iff, h x, mem_cands]

/-- What a round over the segments keeps: every row of ints but the box of the least excess. -/
def KpSeg (Bx : Nat) (W W' : World) : Prop := ∀ k cur fz, k ≠ Bx → W.heap[k]? = some (.cells cur 3 fz) → W'.heap[k]? = W.heap[k]?
theorem KpSeg.trans {Bx : Nat} {A B C : World} (h : KpSeg Bx A B) (k : KpSeg Bx B C) : KpSeg Bx A C := fun i cur fz hne hi => by
  have h1 := h i cur fz hne hi
  exact (k i cur fz hne (h1.trans hi)).trans h1
theorem KpSeg.below {Bx : Nat} {A B : World} (h : Below A.heap.size A B) : KpSeg Bx A B := fun i _ _ _ hi => h.block i (Array.getElem?_eq_some_iff.1 hi).1
theorem KpSeg.put {Bx : Nat} (W : World) (l : Nat) (o o' : Obj) (h : W.heap[l]? = some o) (ho : o.isCells = false) : KpSeg Bx W (W.putObj l o') := fun i cur fz _ hi => World.putObj_heap_other (fun e => by
  subst e
  rw [h] at hi
  cases hi
  cases ho)
theorem KpSeg.row {Bx B n : Nat} {W W' : World} {v : Value} {xs : List Value} (h : KpSeg Bx W W') (hB : Bx < B) (ho : W.ownsRow B 3 1 v n xs) : W'.ownsRow B 3 1 v n xs := by
  refine ⟨ho.1, ?_⟩
  rcases ho.2 with hn | ⟨g, cap, cur, rfl, hb, hg, rest⟩
  · exact .inl hn
  · exact .inr ⟨g, cap, cur, rfl, hb, (h g cur _ (by omega) hg).trans hg, rest⟩

def encSp (x : Int × Int) : Array Value := #[.agg #[.int .i64 x.1, .int .i64 x.2]]
def SegS (l : List Ret) (sent : Int) (xs : List (Int × Int)) : Prop := ∃ ds, SegPts l sent ds ∧ xs = segs ds

set_option maxHeartbeats 4000000 in
set_option maxRecDepth 100000 in
theorem segments_seq (n : Nat) (l : List Ret) (v : Value) (sent : Int) (m Bl Bs Bx : Nat) (w0 W0 : World) (hl : IsRts w0 v l) (hBl : Boxed W0 Bl 24 v) (hBs : Boxed W0 Bs 3 (.int .i64 sent)) (hB : Below w0.heap.size w0 W0)
    (hBx : Bx < W0.heap.size) (hll : l.length ≤ 100) (hr : RetsOk m l) (hs0 : 0 ≤ sent) (hs : sent ≤ 3652058) :
    SeqU Fence.wide n Try.prog 59 #[.pointer (some ⟨Bs, 0, none⟩), .pointer (some ⟨Bl, 0, none⟩)] encSp (KpSeg Bx) (SegS l sent) W0 := by
  intro lp J W hW hJ hY h0
  have hw1 : Fence.wide.depth.isSome = true → 1 ≤ n := fun h => absurd h (by simp [Fence.wide])
  have hBl1 : Boxed W Bl 24 v := hBl.kept hW (by simp)
  have hBs1 : Boxed W Bs 3 (.int .i64 sent) := hBs.kept hW (by simp)
  have hB1 : Below w0.heap.size w0 W := hB.grown hW hB.size (fun k e => by cases e)
  have hX1 := hl.below hB1
  have hszW := hW.size
  obtain ⟨a, cap, hv, -, -⟩ := hl.open
  subst hv
  have HJ := Lib.hid hJ
  have HY := Lib.hid hY
  have H0 := Lib.hid h0
  have HX := Lib.hid hX1
  have HRO := Lib.hid hr
  have e1 := hBs1.cell
  have e2 := hBl1.cell
  have hbs := hBs1.lt
  have hbl := hBl1.lt
  have E1 := Lib.hid e1
  clear hJ hY h0 hX1 hr hB hB1 hl
  refine callsIn_of_wp Try.func59 rfl trivial ?_ rfl
  simp only [Try.ntmps59, List.size_toArray, List.length_cons, List.length_nil, Nat.reduceAdd, Nat.reduceSub, Array.replicate_succ, Array.replicate_zero, List.push_toArray, List.append_toArray, List.nil_append, List.cons_append]
  have HOW0 : Hid ((W.alloc (.cells #[.int .i64 sent, .int .i64 3652059] 3)).ownsRow W.heap.size 3 1 (.slice (some ⟨W.heap.size, 0, none⟩) [sent, 3652059].length 2) [sent, 3652059].length (ints [sent, 3652059])) := World.ownsRow_lit W #[.int .i64 sent, .int .i64 3652059] 2 (Nat.le_refl _) (by unfold maxLen; omega) rfl
  have HBW0 : Hid (Below W.heap.size W (W.alloc (.cells #[.int .i64 sent, .int .i64 3652059] 3))) := (Below.refl _ _).alloc (Nat.le_refl _) _
  gi_wp2_with fail
  gi_loopw [4, 14] (fun o i wr => ∃ (k : Nat) (b4 c4 : Nat) (days : List Int), o = .slice (some ⟨b4, 0, none⟩) days.length c4 ∧ i = .int .i64 k ∧ k ≤ l.length ∧ days.length ≤ 2 + 2 * k ∧ Hid (DyAt sent (cands (l.take k)) days) ∧ Hid (wr.ownsRow W.heap.size 3 1 (.slice (some ⟨b4, 0, none⟩) days.length c4) days.length (ints days)) ∧ Hid (Below W.heap.size W wr)) (fun _ i _ => l.length - (intOf i).toNat)
  case atStart => exact ⟨0, _, _, [sent, 3652059], rfl, rfl, Nat.zero_le _, by simp, Lib.hid (DyAt.start sent), HOW0, HBW0⟩
  case round =>
    obtain ⟨i, b4, c4, days, rfl, rfl, hi, hdl, HDY, HOW, HBR⟩ := hrel
    by_cases hil : i < l.length
    · obtain ⟨b5, o5, q5, e5, hlt5, d0, d1, d2, d3⟩ := (HX.out.below HBR.out).at hil
      simp only [Value.slice.injEq, true_and] at e5
      obtain ⟨rfl, -⟩ := e5
      have HCT := Lib.hid (cands_take hil)
      have hrng := (HRO.out l[i] (List.getElem_mem hil)).range
      generalize l[i] = s at *
      obtain ⟨sc, sk, sf, su⟩ := s
      simp only at d0 d1 d2 d3 hrng HCT
      obtain ⟨r1, r2, r3, r4⟩ := hrng
      have ew : IntKind.i64.wrap (su + 1) = su + 1 := by rw [IntKind.wrap_i64]; omega
      have hso := HBR.out.size
      obtain ⟨wd, hwd⟩ : ∃ wd, wd = wr.alloc (.cells #[.int .i64 sc, .int .i64 sk, .int .i64 sf, .int .i64 su] 30) := ⟨_, rfl⟩
      have hbd : Below wr.heap.size wr wd := by rw [hwd]; exact (Below.refl _ _).alloc (Nat.le_refl _) _
      have HOD := Lib.hid (owns_below HOW.out hbd)
      have HBD := Lib.hid (Below.to HBR.out hbd hso)
      have HWD := Lib.hid hwd
      have HDY0 : Hid (DyAt sent (cands (l.take i) ++ [sf, su + 1].take 0) days) := by show DyAt _ _ _; simpa using HDY.out
      clear hwd hbd HOW HDY HBR
      gi_wp2_with fail
      rw [← HWD.out]
      have i0 : ∀ w : World, (Instr.index 95 (.agg #[.int .i64 sf, .int .i64 (su + 1)]) (.int .i64 0)).run Try.prog w = .ok (.int .i64 sf) w := fun _ => by kernel_rfl
      have i1 : ∀ w : World, (Instr.index 95 (.agg #[.int .i64 sf, .int .i64 (su + 1)]) (.int .i64 1)).run Try.prog w = .ok (.int .i64 (su + 1)) w := fun _ => by kernel_rfl
      gi_loopw [4, 24] (fun o s wr => ∃ (k : Nat) (b6 c6 : Nat) (ou : List Int), o = .slice (some ⟨b6, 0, none⟩) ou.length c6 ∧ s = .int .i64 k ∧ k ≤ 2 ∧ ou.length ≤ days.length + k ∧ Hid (DyAt sent (cands (l.take i) ++ [sf, su + 1].take k) ou) ∧ Hid (wr.ownsRow W.heap.size 3 1 (.slice (some ⟨b6, 0, none⟩) ou.length c6) ou.length (ints ou)) ∧ Hid (Below W.heap.size W wr)) (fun _ s _ => 2 - (intOf s).toNat)
      case atStart => exact ⟨0, b4, c4, days, rfl, rfl, by omega, by omega, HDY0, HOD, HBD⟩
      case round =>
        obtain ⟨k, b6, c6, ou, rfl, rfl, hk, hoo, HSU, HOU, HBU⟩ := hrel
        have hsw := HBU.out.size
        rcases (by omega : k = 0 ∨ k = 1 ∨ k = 2) with rfl | rfl | rfl
        · have HYT : Hid (cands (l.take i) ++ [sf, su + 1].take (0 + 1) = (cands (l.take i) ++ [sf, su + 1].take 0) ++ [sf]) := by show _ = _; simp
          have c1 := (HBU.out.cell (p := ⟨Bs, 0, none⟩) hbs).trans E1.out
          by_cases hc1 : sent < sf
          · by_cases hc2 : sf ≤ 3652058
            · have HN : Hid (DyAt sent (cands (l.take i) ++ [sf, su + 1].take (0 + 1)) (ou ++ [sf])) := by show DyAt _ _ _; rw [HYT.out]; exact HSU.out.add hc1 hc2
              have HLX : Hid (∀ X : World, Rd (X.alloc (.cells #[.int .i64 (sf)] 3)) (.slice (some ⟨X.heap.size, 0, none⟩) 1 1) 1 1 [.int .i64 (sf)]) := fun X => Rd.lit X #[.int .i64 (sf)] 3 1 1 rfl (by unfold maxLen; omega)
              clear HSU HYT
              gi_wp2_with (gi_at_builtin; go_must (refine wpListIn_append_rd rfl _ _ 22 rfl W.heap.size 3 _ 1 8 Try.underlying22 infoInt rfl (by decide) (.slice (some ⟨b6, 0, none⟩) ou.length c6) ou.length (ints ou) rfl (owns_below HOU.out ?b0) _ 1 [.int .i64 (sf)] rfl (HLX.out _) (ints_one [sf]) ?b1 ?b2 ?b3 ?_))
              case b0 => exact (Below.refl _ _).alloc (Nat.le_refl _) _
              case b1 => unfold maxLen; omega
              case b2 => omega
              case b3 => simp; omega
              intro v7 w7 hv7 hg7
              have hb7 : Below W.heap.size W w7 := below_append (Below.to HBU.out ((Below.refl _ _).alloc (Nat.le_refl _) _) hsw) (owns_below HOU.out ((Below.refl _ _).alloc (Nat.le_refl _) _)) hg7 (by simp; omega)
              obtain ⟨b7, c7, rfl, -, -⟩ := owns_some hv7 (by omega)
              have HO7 : Hid (w7.ownsRow W.heap.size 3 1 (.slice (some ⟨b7, 0, none⟩) (ou ++ [sf]).length c7) (ou ++ [sf]).length (ints (ou ++ [sf]))) := by
                show World.ownsRow _ _ _ _ _ _ _
                rw [ints_append, List.length_append, List.length_singleton]
                exact hv7
              have HB7 := Lib.hid hb7
              clear hv7 hg7 hb7 HOU HBU
              gi_wp2_with fail
              go_roundw
              case rel => exact ⟨0 + 1, b7, c7, ou ++ [sf], by rw [List.length_append, List.length_singleton], by go_num, by omega, by rw [List.length_append, List.length_singleton]; omega, HN, HO7, HB7⟩
              case measure => simp [intOf]
            · exact absurd r2 hc2
          · have HN : Hid (DyAt sent (cands (l.take i) ++ [sf, su + 1].take (0 + 1)) ou) := by show DyAt _ _ _; rw [HYT.out]; exact HSU.out.skip (fun h => hc1 h.1)
            have hc3 : sf ≤ sent := by omega
            clear HSU HYT hc1
            gi_wp2_with fail
            go_roundw
            case rel => exact ⟨0 + 1, b6, c6, ou, rfl, by go_num, by omega, by omega, HN, HOU, HBU⟩
            case measure => simp [intOf]
        · have HYT : Hid (cands (l.take i) ++ [sf, su + 1].take (1 + 1) = (cands (l.take i) ++ [sf, su + 1].take 1) ++ [su + 1]) := by show _ = _; simp
          have c1 := (HBU.out.cell (p := ⟨Bs, 0, none⟩) hbs).trans E1.out
          by_cases hc1 : sent < su + 1
          · by_cases hc2 : su + 1 ≤ 3652058
            · have HN : Hid (DyAt sent (cands (l.take i) ++ [sf, su + 1].take (1 + 1)) (ou ++ [su + 1])) := by show DyAt _ _ _; rw [HYT.out]; exact HSU.out.add hc1 hc2
              have HLX : Hid (∀ X : World, Rd (X.alloc (.cells #[.int .i64 (su + 1)] 3)) (.slice (some ⟨X.heap.size, 0, none⟩) 1 1) 1 1 [.int .i64 (su + 1)]) := fun X => Rd.lit X #[.int .i64 (su + 1)] 3 1 1 rfl (by unfold maxLen; omega)
              clear HSU HYT
              gi_wp2_with (gi_at_builtin; go_must (refine wpListIn_append_rd rfl _ _ 22 rfl W.heap.size 3 _ 1 8 Try.underlying22 infoInt rfl (by decide) (.slice (some ⟨b6, 0, none⟩) ou.length c6) ou.length (ints ou) rfl (owns_below HOU.out ?g0) _ 1 [.int .i64 (su + 1)] rfl (HLX.out _) (ints_one [su + 1]) ?g1 ?g2 ?g3 ?_))
              case g0 => exact (Below.refl _ _).alloc (Nat.le_refl _) _
              case g1 => unfold maxLen; omega
              case g2 => omega
              case g3 => simp; omega
              intro v7 w7 hv7 hg7
              have hb7 : Below W.heap.size W w7 := below_append (Below.to HBU.out ((Below.refl _ _).alloc (Nat.le_refl _) _) hsw) (owns_below HOU.out ((Below.refl _ _).alloc (Nat.le_refl _) _)) hg7 (by simp; omega)
              obtain ⟨b7, c7, rfl, -, -⟩ := owns_some hv7 (by omega)
              have HO7 : Hid (w7.ownsRow W.heap.size 3 1 (.slice (some ⟨b7, 0, none⟩) (ou ++ [su + 1]).length c7) (ou ++ [su + 1]).length (ints (ou ++ [su + 1]))) := by
                show World.ownsRow _ _ _ _ _ _ _
                rw [ints_append, List.length_append, List.length_singleton]
                exact hv7
              have HB7 := Lib.hid hb7
              clear hv7 hg7 hb7 HOU HBU
              gi_wp2_with fail
              go_roundw
              case rel => exact ⟨1 + 1, b7, c7, ou ++ [su + 1], by rw [List.length_append, List.length_singleton], by go_num, by omega, by rw [List.length_append, List.length_singleton]; omega, HN, HO7, HB7⟩
              case measure => simp [intOf]
            · have HN : Hid (DyAt sent (cands (l.take i) ++ [sf, su + 1].take (1 + 1)) ou) := by show DyAt _ _ _; rw [HYT.out]; exact HSU.out.skip (fun h => hc2 h.2)
              have hc3 : 3652058 < su + 1 := by omega
              clear HSU HYT hc2
              gi_wp2_with fail
              go_roundw
              case rel => exact ⟨1 + 1, b6, c6, ou, rfl, by go_num, by omega, by omega, HN, HOU, HBU⟩
              case measure => simp [intOf]
          · have HN : Hid (DyAt sent (cands (l.take i) ++ [sf, su + 1].take (1 + 1)) ou) := by show DyAt _ _ _; rw [HYT.out]; exact HSU.out.skip (fun h => hc1 h.1)
            have hc3 : su + 1 ≤ sent := by omega
            clear HSU HYT hc1
            gi_wp2_with fail
            go_roundw
            case rel => exact ⟨1 + 1, b6, c6, ou, rfl, by go_num, by omega, by omega, HN, HOU, HBU⟩
            case measure => simp [intOf]
        · have HN : Hid (DyAt sent (cands (l.take (i + 1))) ou) := by
            show DyAt _ _ _
            rw [HCT.out, List.append_assoc]
            exact HSU.out
          clear HSU
          gi_wp2_with fail
          go_roundw
          case rel => exact ⟨i + 1, b6, c6, ou, rfl, by go_num, by omega, by omega, HN, HOU, HBU⟩
          case measure => simp [intOf]; omega
    · obtain rfl : i = l.length := by omega
      have HF : Hid (DyAt sent (cands l) days) := by
        have h := HDY.out
        rw [List.take_length] at h
        exact h
      clear HDY
      have HSO := Lib.hid (sortI_any W.heap.size 3 b4 c4 days wr HOW.out (by omega))
      have hsw := HBR.out.size
      have hb4 := (HOW.out.lt b4 rfl).1
      clear HOW
      gi_wp2_with fail
      refine ⟨trivial, hw1, ?_⟩
      refine (callsIn_wide.2 HSO.out).mono ?_
      rintro e w1 ⟨rfl, ys, HYS, ho1, hg1⟩
      have hyl : days.length = ys.length := HYS.out.1.length_eq.symm
      rw [hyl] at ho1 ⊢
      have HB1 := Lib.hid (HBR.out.grown hg1 hsw (fun k hk => by cases hk; exact hb4))
      have HCO := Lib.hid (compactI_any W.heap.size 3 b4 c4 ys w1 ho1 (by omega))
      have HSG := Lib.hid (HF.out.seg HYS.out.1 HYS.out.2)
      have hs1 := HB1.out.size
      have hyl2 : ys.length ≤ 2 + 2 * l.length := by omega
      clear ho1 hg1 hyl HF HYS HBR hdl HSO
      gi_wp2_with fail
      refine ⟨trivial, hw1, ?_⟩
      refine (callsIn_wide.2 HCO.out).mono ?_
      rintro e w2 ⟨rfl, ho2, hg2⟩
      have HB2 := Lib.hid (HB1.out.grown hg2 hs1 (fun k hk => by cases hk; exact hb4))
      have HO2 := Lib.hid ho2
      have hcl := compact_le ys
      obtain ⟨ds, hds⟩ : ∃ ds, Lib.compact ys = ds := ⟨_, rfl⟩
      rw [hds] at HO2 HSG hcl ⊢
      have HJ0 : Hid (J [] w2) := HJ.out _ _ _ H0.out ⟨HB2.out.os, HB2.out.tape, HB2.out.output, HB2.out.size, fun k hk _ => HB2.out.block k hk⟩
      obtain ⟨_, hla⟩ := HSG.out.last hs
      have hd1 : 1 < ds.length := by assumption
      have hwl : IntKind.i64.wrap ((ds.length : Int) - 1) = ((ds.length - 1 : Nat) : Int) := by rw [IntKind.wrap_i64]; omega
      have hBxW : Bx < W.heap.size := by omega
      clear ho2 hg2 hds HCO hla
      obtain ⟨M, hM⟩ : ∃ M, ds.length - 1 = M := ⟨_, rfl⟩
      rw [hM] at hwl
      have HM := Lib.hid hM
      clear hM
      gi_wp2_with fail
      gi_loopw [47] (fun i wr => ∃ k : Nat, i = .int .i64 k ∧ k ≤ M ∧ Hid (J (segTo ds k) wr) ∧ Hid (wr.ownsRow W.heap.size 3 1 (.slice (some ⟨b4, 0, none⟩) ds.length c4) ds.length (ints ds))) (fun i _ => M - (intOf i).toNat)
      case atStart => exact ⟨0, rfl, Nat.zero_le _, HJ0, HO2⟩
      case round =>
        obtain ⟨j, rfl, hj, HJJ, HOJ⟩ := hrel
        by_cases hjM : j < M
        · have hj1 : j + 1 < ds.length := by have := HM.out; omega
          have hj0 : j < ds.length := by omega
          have HJD : Hid (J (segTo ds j) wr.drew) := HJ.out _ _ _ HJJ.out ⟨rfl, rfl, rfl, Nat.le_refl _, fun k _ _ => rfl⟩
          obtain ⟨post, hpost⟩ := segTo_split (ds := ds) (j := j) (by have := HM.out; omega)
          obtain ⟨fn, tmps, assign, body, hy, hR⟩ := HY.out (segTo ds j) (ds.getD j 0, ds.getD (j + 1) 0 - 1) wr.drew HJD.out ⟨post, ds, HSG.out, hpost.symm⟩
          have g0 : ds.getD j 0 = ds[j] := by simp [List.getD, List.getElem?_eq_getElem hj0]
          have g1 : ds.getD (j + 1) 0 = ds[j + 1] := by simp [List.getD, List.getElem?_eq_getElem hj1]
          have d0 : wr.cell? ⟨b4, j, none⟩ = some (.int .i64 ds[j]) := by
            rw [HOJ.out.cellAt j (by omega)]
            simp [ints, hj0]
          have d1 : wr.cell? ⟨b4, j + 1, none⟩ = some (.int .i64 ds[j + 1]) := by
            rw [HOJ.out.cellAt (j + 1) (by omega)]
            simp [ints, hj1]
          obtain ⟨k1, k2, k3, -⟩ := HSG.out.same (cs := []) hs0 hs hj1
          have HST := Lib.hid (segTo_succ ds j)
          rw [g0, g1] at hy hR
          rw [g0, g1] at HST
          have hjI : ((j + 1 : Nat) : Int) < (ds.length : Int) := by omega
          have ej : IntKind.i64.wrap ((j : Int) + 1) = ((j + 1 : Nat) : Int) := by rw [IntKind.wrap_i64]; omega
          clear g0 g1 hpost HJJ
          generalize ds[j] = y at *
          generalize ds[j + 1] = z at *
          have ez : IntKind.i64.wrap (z - 1) = z - 1 := by rw [IntKind.wrap_i64]; omega
          simp only [encSp] at hy
          gi_wp2_with fail
          gi_region_with ((refine ⟨hw1, hR.mono ?_⟩; rintro e W' ⟨rfl, hJ', hkk⟩))
          all_goals
            have HJ2 : Hid (J (segTo ds (j + 1)) W') := by show J _ _; rw [HST.out]; exact hJ'
            have HO3 : Hid (W'.ownsRow W.heap.size 3 1 (.slice (some ⟨b4, 0, none⟩) ds.length c4) ds.length (ints ds)) := hkk.row hBxW (owns_below HOJ.out ((Below.refl _ _).drew))
            clear hJ' hkk hy hR
            gi_wp2_with fail
            go_roundw
            case rel => exact ⟨j + 1, by go_num, by omega, HJ2, HO3⟩
            case measure => simp [intOf]; omega
        · obtain rfl : j = M := by omega
          have HFIN : Hid (SegS l sent (segTo ds j)) := ⟨ds, HSG.out, by unfold segs segTo; rw [HM.out]⟩
          gi_wp2_with fail
          go_end0
          exact ⟨⟨_, rfl⟩, _, HFIN.out, HJJ.out⟩

end Go.Proofs.Ytbiedadgejgnoaa
