/-
  The reference's starts: the days at which the excess may change.
-/
import Derived.Test.YtbiedadgejgnoaaRtS
import Derived.Test.YtbiedadgejgnoaaApK
namespace Go.Proofs.Ytbiedadgejgnoaa
open Go.RowKit

/-- What starts has of the candidates C. -/
structure StAt (sent : Int) (C out : List Int) : Prop where
  nodup : out.Nodup
  mem : ∀ x, x ∈ out ↔ (x = sent ∨ (sent < x ∧ x ≤ 3652058 ∧ x ∈ C))
theorem StAt.start (sent : Int) : StAt sent [] [sent] := ⟨by simp, fun x => by simp⟩
theorem StAt.skip {sent y : Int} {C out : List Int} (h : StAt sent C out) (hn : ¬ (sent < y ∧ y ≤ 3652058)) : StAt sent (C ++ [y]) out := ⟨h.nodup, fun x => by
  rw [h.mem, List.mem_append, List.mem_singleton]
  constructor
  · rintro (e | ⟨a, b, c⟩)
    · exact .inl e
    · exact .inr ⟨a, b, .inl c⟩
  · rintro (e | ⟨a, b, c | rfl⟩)
    · exact .inl e
    · exact .inr ⟨a, b, c⟩
    · exact absurd ⟨a, b⟩ hn⟩
theorem StAt.dup {sent y : Int} {C out : List Int} (h : StAt sent C out) (hy : y ∈ out) : StAt sent (C ++ [y]) out := ⟨h.nodup, fun x => by
  rw [List.mem_append, List.mem_singleton]
  constructor
  · intro hx
    rcases (h.mem x).1 hx with e | ⟨a, b, c⟩
    · exact .inl e
    · exact .inr ⟨a, b, .inl c⟩
  · rintro (e | ⟨a, b, c | rfl⟩)
    · exact (h.mem x).2 (.inl e)
    · exact (h.mem x).2 (.inr ⟨a, b, c⟩)
    · exact hy⟩
theorem StAt.add {sent y : Int} {C out : List Int} (h : StAt sent C out) (h1 : sent < y) (h2 : y ≤ 3652058) (hy : y ∉ out) : StAt sent (C ++ [y]) (out ++ [y]) := ⟨by
  rw [List.nodup_append]
  exact ⟨h.nodup, by simp, fun a ha b hb => by simp at hb; subst hb; intro e; exact hy (e ▸ ha)⟩, fun x => by
  rw [List.mem_append, List.mem_append, List.mem_singleton, h.mem]
  constructor
  · rintro ((e | ⟨a, b, c⟩) | rfl)
    · exact .inl e
    · exact .inr ⟨a, b, .inl c⟩
    · exact .inr ⟨h1, h2, .inr rfl⟩
  · rintro (e | ⟨a, b, c | rfl⟩)
    · exact .inl (.inl e)
    · exact .inl (.inr ⟨a, b, c⟩)
    · exact .inr rfl⟩

def cands (l : List Ret) : List Int := l.flatMap (fun r => [r.fr, r.un + 1])
theorem cands_take {l : List Ret} {k : Nat} (hk : k < l.length) : cands (l.take (k + 1)) = cands (l.take k) ++ [l[k].fr] ++ [l[k].un + 1] := by
  rw [List.take_succ_eq_append_getElem hk]
  unfold cands
  rw [List.flatMap_append]
  simp
theorem mem_cands {l : List Ret} {x : Int} : x ∈ cands l ↔ ∃ r ∈ l, x = r.fr ∨ x = r.un + 1 := by
  unfold cands
  rw [List.mem_flatMap]
  simp

/-- Sorted, with the end behind: the points. -/
theorem StAt.seg {l : List Ret} {sent : Int} {out ds : List Int} (h : StAt sent (cands l) out) (hs : sent ≤ 3652058) (hp : ds.Perm out) (hsort : ds.Pairwise (· ≤ ·)) : SegPts l sent (ds ++ [3652059]) := by
  have hnd : ds.Nodup := hp.nodup_iff.2 h.nodup
  refine ⟨?_, fun x => ?_⟩
  · rw [List.pairwise_append]
    refine ⟨(hsort.and hnd).imp (fun ⟨a, b⟩ => by omega), by simp, fun a ha b hb => ?_⟩
    simp at hb
    subst hb
    rcases (h.mem a).1 (hp.mem_iff.1 ha) with e | ⟨-, e, -⟩ <;> omega
  · rw [List.mem_append, hp.mem_iff, h.mem, mem_cands, List.mem_singleton]
    constructor
    · rintro ((e | ⟨a, b, c⟩) | e)
      · exact .inl e
      · exact .inr (.inr ⟨a, b, c⟩)
      · exact .inr (.inl e)
    · rintro (e | e | ⟨a, b, c⟩)
      · exact .inl (.inl e)
      · exact .inr e
      · exact .inl (.inr ⟨a, b, c⟩)

set_option maxHeartbeats 4000000 in
set_option maxRecDepth 100000 in
theorem starts_any (l : List Ret) (v : Value) (sent : Int) (n : Nat) (w : World) (hx : IsRts w v l) (hl : l.length ≤ 100) (hr : RetsOk n l) (_hs0 : 0 ≤ sent) (hs : sent ≤ 3652058) :
    Calls Try.prog 35 #[v, .int .i64 sent] w fun e w' => ∃ v', e = .returned v' ∧ ∃ ds, Hid (SegPts l sent ds) ∧ ds.length ≤ 300 ∧ IsInts w' v' ds ∧ Below w.heap.size w w' := by
  have HX := Lib.hid hx
  have HRO := Lib.hid hr
  obtain ⟨a0, c0, rfl, -, -⟩ := hx.open
  clear hx hr
  have H0 : Hid ((w.alloc (.cells #[.int .i64 sent] 3)).ownsRow w.heap.size 3 1 (.slice (some ⟨w.heap.size, 0, none⟩) 1 1) 1 (ints [sent])) := World.ownsRow_lit w #[.int .i64 sent] 1 (Nat.le_refl _) (by unfold maxLen; omega) rfl
  have HB0 : Hid (Below w.heap.size w (w.alloc (.cells #[.int .i64 sent] 3))) := (Below.refl _ _).alloc (Nat.le_refl _) _
  go_enter Try.func35, Try.ntmps35
  go_wp2_with fail
  go_loopw [5, 6] (fun o i wr => ∃ (k : Nat) (v5 : Value) (out : List Int), v5 = o ∧ i = .int .i64 k ∧ k ≤ l.length ∧ out.length ≤ 1 + 2 * k ∧ Hid (StAt sent (cands (l.take k)) out) ∧ Hid (wr.ownsRow w.heap.size 3 1 v5 out.length (ints out)) ∧ Hid (Below w.heap.size w wr)) (fun _ i _ => l.length - (intOf i).toNat)
  case atStart => exact ⟨0, _, [sent], rfl, rfl, Nat.zero_le _, by simp, Lib.hid (StAt.start sent), H0, HB0⟩
  case round =>
    obtain ⟨i, v5, out, rfl, rfl, hi, hol, HST, HOW, HBR⟩ := hrel
    by_cases hil : i < l.length
    · obtain ⟨b5, o5, q5, e5, hlt5, d0, d1, d2, d3⟩ := (HX.out.below HBR.out).at hil
      simp only [Value.slice.injEq, true_and] at e5
      obtain ⟨rfl, -⟩ := e5
      have HCT := Lib.hid (cands_take hil)
      have hrng := (HRO.out l[i] (List.getElem_mem hil)).range
      generalize l[i] = s at *
      obtain ⟨sc, sk, sf, su⟩ := s
      simp only at d0 d1 d2 d3 hrng HCT
      obtain ⟨r1, r2, r3, r4⟩ := hrng
      have e1 : IntKind.i64.wrap (su + 1) = su + 1 := by rw [IntKind.wrap_i64]; omega
      obtain ⟨a5, c5, rfl, -, -⟩ := owns_slice HOW.out
      have hso := HBR.out.size
      go_wp2_with fail
      go_region_held3 (fun w' => w'.cell? ⟨b5, o5 + i * 4 + 2, none⟩ = some (.int .i64 sf) ∧ w'.cell? ⟨b5, o5 + i * 4 + 3, none⟩ = some (.int .i64 su)) (go_keep) (fail)
      obtain ⟨wd, hwd⟩ : ∃ wd, wd = (wr.alloc (.cells #[.int .i64 sf, .int .i64 (su + 1)] 3)).drew := ⟨_, rfl⟩
      have hbd : Below wr.heap.size wr wd := by rw [hwd]; exact ((Below.refl _ _).alloc (Nat.le_refl _) _).drew
      have hcd : ∀ o, wd.cell? ⟨wr.heap.size, o, none⟩ = (#[.int .i64 sf, .int .i64 (su + 1)] : Array Value)[o]? := fun o => by rw [hwd]; simp
      have z0 := hcd 0
      have z1 := hcd 1
      simp at z0 z1
      have hsd : wr.heap.size < wd.heap.size := by rw [hwd]; simp
      have hnb : (Value.slice a5 out.length c5).ownBlock ≠ some wr.heap.size := fun e => by have := (HOW.out.lt _ e).2; omega
      obtain ⟨wo, rfl⟩ : ∃ wo : World, wo = wr := ⟨_, rfl⟩
      have HOD := Lib.hid (owns_below HOW.out hbd)
      have HBD := Lib.hid (Below.to HBR.out hbd hso)
      have HWD := Lib.hid hwd
      have HNB := Lib.hid hnb
      have HST0 : Hid (StAt sent (cands (l.take i) ++ [sf, su + 1].take 0) out) := by show StAt _ _ _; simpa using HST.out
      clear hcd hwd hbd hnb HOW HST
      go_wp2_with fail
      rw [← HWD.out]
      go_loopw [5, 8] (fun o s wr => ∃ (k : Nat) (a6 : Option Addr) (c6 : Nat) (ou : List Int), o = .slice a6 ou.length c6 ∧ s = .int .i64 k ∧ k ≤ 2 ∧ ou.length ≤ out.length + k ∧ Hid (StAt sent (cands (l.take i) ++ [sf, su + 1].take k) ou) ∧ Hid (wr.ownsRow w.heap.size 3 1 (.slice a6 ou.length c6) ou.length (ints ou)) ∧ Hid (Below w.heap.size w wr) ∧ wo.heap.size < wr.heap.size ∧
          Hid ((Value.slice a6 ou.length c6).ownBlock ≠ some wo.heap.size) ∧ Hid (wr.cell? ⟨wo.heap.size, 0, none⟩ = some (.int .i64 sf)) ∧ Hid (wr.cell? ⟨wo.heap.size, 1, none⟩ = some (.int .i64 (su + 1)))) (fun _ s _ => 2 - (intOf s).toNat)
      case atStart => exact ⟨0, _, _, out, rfl, rfl, by omega, Nat.le_refl _, HST0, HOD, HBD, hsd, HNB, Lib.hid z0, Lib.hid z1⟩
      case round =>
        obtain ⟨k, a6, c6, ou, rfl, rfl, hk, hoo, HSU, HOU, HBU, hsu, HNU, Y0, Y1⟩ := hrel
        by_cases hk2 : k < 2
        · obtain ⟨y, hcy, hyt, hy0, hy1⟩ : ∃ y, wr.cell? ⟨wo.heap.size, k, none⟩ = some (.int .i64 y) ∧ [sf, su + 1].take (k + 1) = [sf, su + 1].take k ++ [y] ∧ 0 ≤ y ∧ y ≤ 3652059 := by
            rcases (by omega : k = 0 ∨ k = 1) with rfl | rfl
            · exact ⟨sf, Y0.out, rfl, by omega, by omega⟩
            · exact ⟨su + 1, Y1.out, rfl, by omega, by omega⟩
          have HYT : Hid (cands (l.take i) ++ [sf, su + 1].take (k + 1) = (cands (l.take i) ++ [sf, su + 1].take k) ++ [y]) := by show _ = _; rw [hyt, List.append_assoc]
          have HIO := Lib.hid (IsInts.of_owns HOU.out)
          have hsw := HBU.out.size
          clear hyt
          by_cases hc1 : sent < y
          · by_cases hc2 : y ≤ 3652058
            · by_cases hin : y ∈ ou
              · have HN : Hid (StAt sent (cands (l.take i) ++ [sf, su + 1].take (k + 1)) ou) := by show StAt _ _ _; rw [HYT.out]; exact HSU.out.dup hin
                have HH := Lib.hid (has_yes ou _ y wr HIO.out hin)
                clear HSU HYT hin
                go_wp2_with fail
                refine HH.out.mono ?_
                rintro e w' ⟨rfl, rfl⟩
                go_wp2_with fail
                go_roundw
                case rel => exact ⟨k + 1, _, _, ou, rfl, by go_num, by omega, by omega, HN, HOU, HBU, hsu, HNU, Y0, Y1⟩
                case measure => simp [intOf]; omega
              · have HN : Hid (StAt sent (cands (l.take i) ++ [sf, su + 1].take (k + 1)) (ou ++ [y])) := by show StAt _ _ _; rw [HYT.out]; exact HSU.out.add hc1 hc2 hin
                have HH := Lib.hid (has_no ou _ y wr HIO.out hin)
                have HLX : Hid (∀ W : World, Rd (W.alloc (.cells #[.int .i64 y] 3)) (.slice (some ⟨W.heap.size, 0, none⟩) 1 1) 1 1 [.int .i64 y]) := fun W => Rd.lit W #[.int .i64 y] 3 1 1 rfl (by unfold maxLen; omega)
                clear HSU HYT hin HIO
                go_wp2_with fail
                refine HH.out.mono ?_
                rintro e w' ⟨rfl, rfl⟩
                go_wp2_with (at_builtin; go_must (refine wpList_append_rda rfl _ _ 22 rfl w.heap.size 3 _ 1 8 Try.underlying22 infoInt rfl (by decide) (.slice a6 ou.length c6) ou.length (ints ou) rfl (owns_below HOU.out ?b0) _ 1 [.int .i64 y] rfl (HLX.out _) (ints_one [y]) ?b1 ?b2 ?b3 ?_))
                case b0 => exact (Below.refl _ _).alloc (Nat.le_refl _) _
                case b1 => unfold maxLen; omega
                case b2 => omega
                case b3 => simp; omega
                intro v7 w7 hv7 hg7 hat7
                have hb7 : Below w.heap.size w w7 := below_append (Below.to HBU.out ((Below.refl _ _).alloc (Nat.le_refl _) _) hsw) (owns_below HOU.out ((Below.refl _ _).alloc (Nat.le_refl _) _)) hg7 (by simp; omega)
                obtain ⟨a7, c7, rfl, -, -⟩ := owns_slice hv7
                have HO7 : Hid (w7.ownsRow w.heap.size 3 1 (.slice a7 (ou ++ [y]).length c7) (ou ++ [y]).length (ints (ou ++ [y]))) := by
                  show World.ownsRow _ _ _ _ _ _ _
                  rw [ints_append, List.length_append, List.length_singleton]
                  exact hv7
                have HN7 : Hid ((Value.slice a7 (ou ++ [y]).length c7).ownBlock ≠ some wo.heap.size) := fun e => by
                  have e' : (Value.slice a7 (ou.length + 1) c7).ownBlock = some wo.heap.size := by
                    cases a7 with
                    | none => cases e
                    | some q => exact e
                  rcases hat7 with h | h
                  · rw [h] at e'
                    exact HNU.out e'
                  · rw [h] at e'
                    have := Option.some.inj e'
                    omega
                have hblk : w7.heap[wo.heap.size]? = wr.heap[wo.heap.size]? := (hg7.block wo.heap.size (by simp; omega) (fun e => HNU.out e.symm)).trans (Below.heap_alloc _ _ _ hsu)
                have Y07 : Hid (w7.cell? ⟨wo.heap.size, 0, none⟩ = some (.int .i64 sf)) := (World.cell?_of_block (a := ⟨wo.heap.size, 0, none⟩) hblk).trans Y0.out
                have Y17 : Hid (w7.cell? ⟨wo.heap.size, 1, none⟩ = some (.int .i64 (su + 1))) := (World.cell?_of_block (a := ⟨wo.heap.size, 1, none⟩) hblk).trans Y1.out
                have HB7 := Lib.hid hb7
                have hs7 : wo.heap.size < w7.heap.size := by have := hg7.size; simp at this; omega
                clear hv7 hg7 hat7 hb7 hblk HOU HBU HNU Y0 Y1
                go_wp2_with fail
                go_roundw
                case rel => exact ⟨k + 1, a7, c7, ou ++ [y], by rw [List.length_append, List.length_singleton], by go_num, by omega, by rw [List.length_append, List.length_singleton]; omega, HN, HO7, HB7, hs7, HN7, Y07, Y17⟩
                case measure => simp [intOf]; omega
            · have HN : Hid (StAt sent (cands (l.take i) ++ [sf, su + 1].take (k + 1)) ou) := by show StAt _ _ _; rw [HYT.out]; exact HSU.out.skip (fun h => hc2 h.2)
              have hc3 : 3652058 < y := by omega
              clear HSU HYT HIO hc2
              go_wp2_with fail
              go_roundw
              case rel => exact ⟨k + 1, _, _, ou, rfl, by go_num, by omega, by omega, HN, HOU, HBU, hsu, HNU, Y0, Y1⟩
              case measure => simp [intOf]; omega
          · have HN : Hid (StAt sent (cands (l.take i) ++ [sf, su + 1].take (k + 1)) ou) := by show StAt _ _ _; rw [HYT.out]; exact HSU.out.skip (fun h => hc1 h.1)
            have hc3 : y ≤ sent := by omega
            clear HSU HYT HIO hc1
            go_wp2_with fail
            go_roundw
            case rel => exact ⟨k + 1, _, _, ou, rfl, by go_num, by omega, by omega, HN, HOU, HBU, hsu, HNU, Y0, Y1⟩
            case measure => simp [intOf]; omega
        · obtain rfl : k = 2 := by omega
          have HN : Hid (StAt sent (cands (l.take (i + 1))) ou) := by
            show StAt _ _ _
            rw [HCT.out, List.append_assoc]
            exact HSU.out
          clear HSU
          go_wp2_with fail
          go_roundw
          case rel => exact ⟨i + 1, _, ou, rfl, by go_num, by omega, by omega, HN, HOU, HBU⟩
          case measure => simp [intOf]; omega
    · obtain rfl : i = l.length := by omega
      have HF : Hid (StAt sent (cands l) out) := by
        have h := HST.out
        rw [List.take_length] at h
        exact h
      have HS := Lib.hid (sorted_any out v5 wr (IsInts.of_owns HOW.out) (by omega))
      have hsw := HBR.out.size
      clear HST HOW
      go_wp2_with fail
      refine HS.out.mono ?_
      rintro e w1 ⟨v1, rfl, ds, HPS, ho1, hb1⟩
      have hdl : ds.length ≤ 201 := by have := HPS.out.1.length_eq; omega
      have HO1 := Lib.hid ho1
      have HB1 := Lib.hid (Below.to HBR.out hb1 hsw)
      have hs1 := hb1.size
      have HLX : Hid (∀ W : World, Rd (W.alloc (.cells #[.int .i64 3652059] 3)) (.slice (some ⟨W.heap.size, 0, none⟩) 1 1) 1 1 [.int .i64 3652059]) := fun W => Rd.lit W #[.int .i64 3652059] 3 1 1 rfl (by unfold maxLen; omega)
      have HSG := Lib.hid (HF.out.seg hs HPS.out.1 HPS.out.2)
      obtain ⟨a1, c1, rfl, -, -⟩ := owns_slice ho1
      clear ho1 hb1 HPS HF
      go_wp2_with (at_builtin; go_must (refine wpList_append_rd rfl _ _ 22 rfl wr.heap.size 3 _ 1 8 Try.underlying22 infoInt rfl (by decide) (.slice a1 ds.length c1) ds.length (ints ds) rfl (owns_below HO1.out ?b0) _ 1 [.int .i64 3652059] rfl (HLX.out _) (ints_one [3652059]) ?b1 ?b2 ?b3 ?_))
      case b0 => exact (Below.refl _ _).alloc (Nat.le_refl _) _
      case b1 => unfold maxLen; omega
      case b2 => omega
      case b3 => simp; omega
      intro v7 w7 hv7 hg7
      have hb7 : Below w.heap.size w w7 := below_append (Below.to HB1.out ((Below.refl _ _).alloc (Nat.le_refl _) _) (by omega)) (owns_mono (owns_below HO1.out ((Below.refl _ _).alloc (Nat.le_refl _) _)) hsw) hg7 (by simp; omega)
      have HI7 : Hid (IsInts w7 v7 (ds ++ [3652059])) := by
        show IsInts _ _ _
        refine IsInts.of_owns (n := ds.length + 1) (B := wr.heap.size) (e := 3) ?_
        rw [ints_append]
        exact hv7
      have HB7 := Lib.hid hb7
      clear hv7 hg7 hb7
      go_wp2_with fail
      go_ret
      exact ⟨_, rfl, _, HSG, by simp; omega, HI7.out, HB7.out⟩

end Go.Proofs.Ytbiedadgejgnoaa
