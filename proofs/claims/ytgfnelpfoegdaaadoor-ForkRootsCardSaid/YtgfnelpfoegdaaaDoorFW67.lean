/-
  Contracts of the reference's Ancestors, Depth, Events, Common.
  Contracts of Events at any branch; of Common.
-/
import Derived.Test.YtgfnelpfoegdaaaDoorFW5
import Derived.Deep.RegionHeld3
namespace Go.Proofs.YtgfnelpfoegdaaaDoor
open Go.RowKit

set_option maxRecDepth 100000 in
theorem refAncestors (l : List Br) (v : Value) (b : Int) (w : World) (hl : IsBrs w v l) (hdec : DecPar l b) (hlen : (chainZ l b).length ≤ 1000000) :
    Calls Tryd.prog 62 #[v, .int .i64 b] w fun e w' => ∃ v', e = .returned v' ∧ IsInts w' v' (natInts (chainZ l b)) ∧ Below w.heap.size w w' := by
  obtain ⟨a, cap, hv, hl63, -, hc⟩ := hl.open
  subst hv
  unfold maxLen at hl63
  have HC := Lib.hid hc; clear hc hl
  have HD := Lib.hid hdec; clear hdec
  have HLEN := Lib.hid hlen; clear hlen
  go_enter Tryd.func62, Tryd.ntmps62
  go_wp2_with fail
  go_loopw [1, 5] (fun c o wr => ∃ (pre : List Nat) (cur : Int), c = .int .i64 cur ∧ cur ≤ b ∧ w.heap.size ≤ wr.heap.size ∧ Hid (pre ++ chainZ l cur = chainZ l b) ∧ Hid (wr.ownsRow w.heap.size 3 1 o pre.length (ints (natInts pre))) ∧ Hid (Below w.heap.size w wr)) (fun c _ _ => (intOf c + 1).toNat)
  case atStart => exact ⟨[], b, rfl, Int.le_refl _, Nat.le_refl _, rfl, World.ownsRow_nil _ _ _ _, Below.refl _ _⟩
  case round =>
    obtain ⟨pre, cur, rfl, hcb, hsz, HE, HO, HB⟩ := hrel
    by_cases hin : 0 ≤ cur ∧ cur < l.length
    · obtain ⟨k, rfl⟩ := Int.eq_ofNat_of_zero_le hin.1
      have hk : k < l.length := by omega
      have hd : decide ((0 : Int) ≤ (k : Int) ∧ (k : Int) < (l.length : Int)) = true := by simp; omega
      obtain ⟨bb, off, u, ha, -, c0, -, -, -, -⟩ := HC.out k hk
      subst ha
      have hx := List.getElem?_eq_getElem hk
      obtain ⟨hp1, hp2⟩ := HD.out k _ hcb hx
      have hch : Hid (chainZ l (k : Int) = k :: chainZ l l[k].parent) := by
        show _ = _
        rw [chainZ_nat, chain_some hx hp2]
      have hE2 : Hid ((pre ++ [k]) ++ chainZ l l[k].parent = chainZ l b) := by
        show _ = _
        rw [← HE.out, hch.out]; simp
      have hpl : pre.length + 1 ≤ 1000000 := by
        have h1 := congrArg List.length hE2.out
        have h2 := HLEN.out
        simp at h1
        omega
      have hblt : bb < w.heap.size := World.block_lt_of_cell? _ _ c0
      clear hin hx
      generalize l[k].parent = par at *
      have hsrc : Hid (Rd (wr.alloc (.cells #[.int .i64 (k : Int)] 3)) (.slice (some ⟨wr.heap.size, 0, none⟩) 1 1) 1 1 [.int .i64 (k : Int)]) := Rd.lit wr #[.int .i64 (k : Int)] 3 1 1 rfl (by unfold maxLen; omega)
      go_wp2_with (first | (go_at_call 39; refine (refhas_any _ _ _ _ _).mono ?_; rintro e w' ⟨rfl, rfl⟩) | (at_builtin; go_must (refine wpList_append_rd rfl _ _ 22 rfl w.heap.size 3 _ 1 8 Tryd.underlying22 infoInt rfl (by decide) u5 pre.length (ints (natInts pre)) rfl (HO.out.alloc _) _ 1 [.int .i64 (k : Int)] rfl hsrc.out (by intro c hc; simp at hc; subst hc; rfl) ?b1 ?b2 ?b3 ?_)))
      case b1 => unfold maxLen; omega
      case b2 => omega
      case b3 => simp; omega
      intro v' w1 hrow1 hg1
      have hB1 : Below w.heap.size w w1 := (HB.out.alloc hsz (.cells #[.int .i64 (k : Int)] 3)).grown hg1 (by simp; omega) (fun j hj => (HO.out.lt j hj).1)
      have hO1 : Hid (w1.ownsRow w.heap.size 3 1 v' (pre ++ [k]).length (ints (natInts (pre ++ [k])))) := by
        show World.ownsRow _ _ _ _ _ _ _
        simpa [natInts, ints] using hrow1
      have d0 : w1.cell? ⟨bb, off + k * 5, none⟩ = some (.int .i64 par) := by rw [hB1.cell hblt]; exact c0
      have hs1 := hB1.size
      have HB1 := Lib.hid hB1
      clear hB1 hrow1 hg1 c0
      go_wp2
      go_roundw
      case rel => exact ⟨pre ++ [k], par, rfl, by omega, hs1, hE2, hO1, HB1⟩
      case measure => simp [intOf]; omega
    · have hd : decide ((0 : Int) ≤ cur ∧ cur < (l.length : Int)) = false := by simpa using hin
      have hch : Hid (chainZ l cur = []) := by
        show _ = _
        by_cases h0 : cur < 0
        · exact chainZ_neg h0
        · exact chainZ_big (by omega)
      clear hin
      go_wp2_with (go_at_call 39; refine (refhas_any _ _ _ _ _).mono ?_; rintro e w' ⟨rfl, rfl⟩)
      go_ret
      have h1 := HE.out
      rw [hch.out, List.append_nil] at h1
      rw [← h1]
      exact ⟨_, rfl, IsInts.of_owns HO.out, HB.out⟩

theorem natInts_len (xs : List Nat) : (natInts xs).length = xs.length := by simp [natInts]

theorem refDepth (l : List Br) (v : Value) (b : Int) (w : World) (hl : IsBrs w v l) (hdec : DecPar l b) (hlen : (chainZ l b).length ≤ 1000000) :
    Calls Tryd.prog 40 #[v, .int .i64 b] w fun e w' => e = .returned (.int .i64 (depthZ l b)) ∧ Below w.heap.size w w' := by
  obtain ⟨a, cap, hv, -, -, -⟩ := hl.open
  subst hv
  have HL := Lib.hid hl; clear hl
  have HD := Lib.hid hdec; clear hdec
  have HN := Lib.hid hlen; clear hlen
  go_enter Tryd.func40, Tryd.ntmps40
  go_wp2_with fail
  refine (refAncestors l _ b w HL.out HD.out HN.out).mono ?_
  rintro e w1 ⟨v1, rfl, hv1, hb1⟩
  obtain ⟨a1, c1, rfl, -, -, -⟩ := hv1.open
  rw [natInts_len]
  have hn := HN.out
  have HB := Lib.hid hb1
  clear hb1 hv1
  go_wp2
  all_goals
    go_ret
    exact ⟨ret_int (by unfold depthZ; omega), HB.out⟩

theorem rd_len {w : World} {v : Value} {xs : List Int} {k : Nat} (h : IsInts w v xs) (hk : xs.length = k) : Rd w v 1 k (ints xs) := by
  subst hk; exact h

set_option maxHeartbeats 1000000 in
set_option maxRecDepth 100000 in
theorem refEvents (l : List Br) (v : Value) : ∀ (b : Nat) (x : Br) (w : World), IsBrs w v l → l[b]? = some x → StrB l b → sz x ≤ 1000000 → (∀ (i : Nat) y, (i : Int) ≤ b → l[i]? = some y → sz y ≤ 1000000) →
    Calls Tryd.prog 41 #[v, .int .i64 b] w fun e w' => ∃ v', e = .returned v' ∧ IsInts w' v' (events l b) ∧ Below w.heap.size w w' := by
  intro b
  induction b using Nat.strongRecOn with
  | ind b ih =>
    intro x w hl hx hstr hlen hall
    obtain ⟨hlt, hxx⟩ := List.getElem?_eq_some_iff.1 hx
    obtain ⟨hp1, hp2, hp3, hp4⟩ := hstr b x (Int.le_refl _) hx
    have hev := events_some hx hp2
    have hevl := events_len b x hstr hx
    obtain ⟨a, cap, hv, hl63, -, hc⟩ := hl.open
    subst hv
    unfold maxLen at hl63
    obtain ⟨bb, off, u, ha, hu, c0, -, c2, c3, -⟩ := hc b hlt
    subst ha
    rw [hxx] at hu c0 c2
    obtain ⟨A, hA⟩ := Int.eq_ofNat_of_zero_le hp3
    rw [hA] at c2
    have hd : decide ((0 : Int) ≤ (b : Int) ∧ (b : Int) < (l.length : Int)) = true := by simp; omega
    have hol : x.own.length ≤ 1000000 := by unfold sz at hlen; omega
    by_cases hpar : x.parent < 0
    · rw [eventsZ_neg hpar] at hev
      simp only [List.take_nil, List.nil_append] at hev
      have hdp : decide ((0 : Int) ≤ x.parent) = false := by simp; omega
      have HEV := Lib.hid hev
      have HU := Lib.hid hu
      clear hc hl ih hstr hall hx hxx hev hevl hu
      go_enter Tryd.func41, Tryd.ntmps41
      go_wp2_with (first | (go_at_call 39; refine (refhas_any _ _ _ _ _).mono ?_; rintro e w' ⟨rfl, rfl⟩) | (at_builtin; go_must (refine wpList_append_rd rfl _ _ 22 rfl w.heap.size 3 _ 1 8 Tryd.underlying22 infoInt rfl (by decide) _ 0 [] rfl (World.ownsRow_nil _ _ _ _) u x.own.length (ints x.own) rfl HU.out (ints_one _) ?b1 ?b2 ?b3 ?_)))
      case b1 => unfold maxLen; omega
      case b2 => omega
      case b3 => exact Nat.le_refl _
      intro v' w1 hrow1 hg1
      have hB1 : Below w.heap.size w w1 := below_append (Below.refl _ _) (World.ownsRow_nil w w.heap.size 3 1) hg1 (Nat.le_refl _)
      have hR : Hid (IsInts w1 v' (events l b)) := by
        show IsInts _ _ _
        rw [HEV.out]
        exact IsInts.of_owns (by simpa using hrow1)
      have HB1 := Lib.hid hB1
      clear hB1 hrow1 hg1
      go_wp2
      go_ret
      exact ⟨_, rfl, hR.out, HB1.out⟩
    · obtain ⟨p, hp⟩ := Int.eq_ofNat_of_zero_le (by omega : 0 ≤ x.parent)
      rw [hp] at hev hp2 c0
      rw [eventsZ_nat] at hev
      have hpb : p < b := by omega
      obtain ⟨y, hy⟩ : ∃ y, l[p]? = some y := ⟨_, List.getElem?_eq_getElem (by omega)⟩
      have hyl := events_len p y (hstr.mono (by omega)) hy
      have hmost : most l x = sz y := by unfold most; rw [hp, if_neg (by omega)]; simp [hy]
      have hya : A ≤ (events l p).length := by omega
      have hyz := hall p y (by omega) hy
      have hel6 : (events l p).length ≤ 1000000 := by omega
      have IH := Lib.hid (fun w' hw' => ih p hpb y w' hw' hy (hstr.mono (by omega)) hyz (fun i z hi hz => hall i z (by omega) hz))
      have hdp : decide ((0 : Int) ≤ (p : Int)) = true := by simp
      have hblt : bb < w.heap.size := World.block_lt_of_cell? _ _ c0
      simp only [hA, Int.toNat_natCast] at hev
      have HEV := Lib.hid hev
      have HU := Lib.hid hu
      have HL := Lib.hid hl
      have hA0 : (0 : Int) ≤ (A : Int) := by omega
      have HLE := Lib.hid hya
      have HA1 : Hid (0 + A ≤ maxLen) := (by show _ ≤ _; unfold maxLen; omega)
      have HA2 : Hid ((0 + A) * 8 ≤ 140737488355328) := (by show _ ≤ _; omega)
      clear hc hl ih hstr hall hx hxx hev hevl hu hyl hmost hy hp hp4 hA hyz
      go_enter Tryd.func41, Tryd.ntmps41
      go_wp2_with (first | (go_at_call 39; refine (refhas_any _ _ _ _ _).mono ?_; rintro e w' ⟨rfl, rfl⟩))
      go_region_held3 (fun w' => w'.cell? ⟨bb, off + b * 5, none⟩ = some (.int .i64 (p : Int)) ∧ w'.cell? ⟨bb, off + b * 5 + 2, none⟩ = some (.int .i64 (A : Int)))
        (first
          | exact ⟨m1, m2⟩
          | exact ⟨k1, k2⟩
          | go_keep)
        (first
          | (go_at_call 41
             refine (IH.out _ (HL.out.below (Below.refl _ _).drew)).mono ?_
             rintro e w1 ⟨v1, rfl, hv1, hb1⟩
             obtain ⟨a1, cap1, rfl, hm1, hn1, -⟩ := hv1.open
             have k1 : w1.cell? ⟨bb, off + b * 5, none⟩ = some (.int .i64 (p : Int)) := (by rw [hb1.cell hblt]; exact c0)
             have k2 : w1.cell? ⟨bb, off + b * 5 + 2, none⟩ = some (.int .i64 (A : Int)) := (by rw [hb1.cell hblt]; exact c2)
             have hcut : (A : Int) ≤ (cap1 : Int) := (by have := HLE.out; omega)
             have HV1 : Hid (Rd w1 (.slice a1 A cap1) 1 A (ints ((events l p).take A))) := rd_len (hv1.take A HLE.out) (by rw [List.length_take]; exact Nat.min_eq_left HLE.out)
             have HB1 := Lib.hid hb1
             clear hb1 hv1)
          | (refine step_append_rd (by rfl) _ _ 22 (by rfl) w.heap.size 3 _ 1 8 Tryd.underlying22 infoInt rfl (by decide) _ 0 [] (by rfl) (World.ownsRow_nil _ _ _ _) _ A (ints ((events l p).take A)) (by rfl) HV1.out (ints_one _) HA1.out HA2.out HB1.out.size ?_
             intro v2 w2 hv2 hg2
             have m1 : w2.cell? ⟨bb, off + b * 5, none⟩ = some (.int .i64 (p : Int)) := (by rw [cell_grown hg2 (Nat.lt_of_lt_of_le hblt HB1.out.size) (by simp [Value.ownBlock])]; exact k1)
             have m2 : w2.cell? ⟨bb, off + b * 5 + 2, none⟩ = some (.int .i64 (A : Int)) := (by rw [cell_grown hg2 (Nat.lt_of_lt_of_le hblt HB1.out.size) (by simp [Value.ownBlock])]; exact k2)
             have HB2 : Hid (Below w.heap.size w w2) := below_append (Below.trans (Below.refl _ _).drew HB1.out) (World.ownsRow_nil w1 w.heap.size 3 1) hg2 HB1.out.size
             have HV2 := Lib.hid hv2
             clear hv2 hg2 k1 k2))
      have d3 : w2.cell? ⟨bb, off + b * 5 + 3, none⟩ = some u := by rw [HB2.out.cell hblt]; exact c3
      have HU2 := Lib.hid (HU.out.below HB2.out)
      have hv3 : Hid (w2.ownsRow w.heap.size 3 1 v2 A (ints ((events l p).take A))) := by
        show World.ownsRow _ _ _ _ _ _ _
        simpa using HV2.out
      have hs2 := HB2.out.size
      clear m1 m2 c3 c0 c2 HV2
      go_wp2_with (at_builtin; go_must (refine wpList_append_rd rfl _ _ 22 rfl w.heap.size 3 _ 1 8 Tryd.underlying22 infoInt rfl (by decide) v2 A (ints ((events l p).take A)) rfl hv3.out u x.own.length (ints x.own) rfl HU2.out (ints_one _) ?b1 ?b2 ?b3 ?_))
      case b1 => have := HLE.out; unfold maxLen; omega
      case b2 => have := HLE.out; omega
      case b3 => exact hs2
      intro v' w3 hrow3 hg3
      have hB3 : Below w.heap.size w w3 := below_append HB2.out hv3.out hg3 hs2
      have hR : Hid (IsInts w3 v' (events l b)) := by
        show IsInts _ _ _
        rw [HEV.out]
        refine IsInts.of_owns (B := w.heap.size) (e := 3) (n := A + x.own.length) ?_
        rw [ints_append]
        exact hrow3
      have HB3 := Lib.hid hB3
      clear hB3 hrow3 hg3
      go_wp2
      go_ret
      exact ⟨_, rfl, hR.out, HB3.out⟩

theorem refEvents_none (l : List Br) (v : Value) (b : Int) (w : World) (hl : IsBrs w v l) (hb : ¬ (0 ≤ b ∧ b < l.length)) :
    Calls Tryd.prog 41 #[v, .int .i64 b] w fun e w' => e = .returned (.slice none 0 0) ∧ w = w' := by
  obtain ⟨a, cap, hv, -, -, -⟩ := hl.open
  subst hv
  have hd : decide ((0 : Int) ≤ b ∧ b < (l.length : Int)) = false := by simpa using hb
  clear hl hb
  go_enter Tryd.func41, Tryd.ntmps41
  go_wp2_with (go_at_call 39; refine (refhas_any _ _ _ _ _).mono ?_; rintro e w' ⟨rfl, rfl⟩)
  go_ret
  exact ⟨rfl, rfl⟩

end Go.Proofs.YtgfnelpfoegdaaaDoor

namespace Go.Proofs.YtgfnelpfoegdaaaDoor
open Go.RowKit

theorem forkEventsZ (l : List Br) (v : Value) (b : Int) (w : World) (hl : IsBrs w v l) (hg : Good l) :
    Calls Tryd.prog 8 #[v, .int .i64 b] w fun e w' => ∃ v', e = .returned v' ∧ IsInts w' v' (eventsZ l b) ∧ Below w.heap.size w w' := by
  by_cases h : 0 ≤ b ∧ b < l.length
  · obtain ⟨k, rfl⟩ := Int.eq_ofNat_of_zero_le h.1
    have hk : k < l.length := by omega
    have hx := List.getElem?_eq_getElem hk
    rw [eventsZ_nat]
    exact forkEvents l v k l[k] w hl hx (hg.str _) (by have := (hg.ok hx).s; omega)
  · refine (forkEvents_none l v b w hl h).mono ?_
    rintro e w' ⟨rfl, hb⟩
    have : eventsZ l b = [] := by
      rcases Int.lt_or_le b 0 with hn | hn
      · exact eventsZ_neg hn
      · unfold eventsZ; rw [if_neg (by omega), events_none (by omega)]
    rw [this]
    exact ⟨_, rfl, IsInts.nil _ _ _, hb⟩

theorem refEventsZ (l : List Br) (v : Value) (b : Int) (w : World) (hl : IsBrs w v l) (hg : Good l) :
    Calls Tryd.prog 41 #[v, .int .i64 b] w fun e w' => ∃ v', e = .returned v' ∧ IsInts w' v' (eventsZ l b) ∧ Below w.heap.size w w' := by
  by_cases h : 0 ≤ b ∧ b < l.length
  · obtain ⟨k, rfl⟩ := Int.eq_ofNat_of_zero_le h.1
    have hk : k < l.length := by omega
    have hx := List.getElem?_eq_getElem hk
    rw [eventsZ_nat]
    exact refEvents l v k l[k] w hl hx (hg.str _) (by have := (hg.ok hx).s; omega) (fun i y _ hy => by have := (hg.ok hy).s; omega)
  · refine (refEvents_none l v b w hl h).mono ?_
    rintro e w' ⟨rfl, rfl⟩
    have : eventsZ l b = [] := by
      rcases Int.lt_or_le b 0 with hn | hn
      · exact eventsZ_neg hn
      · unfold eventsZ; rw [if_neg (by omega), events_none (by omega)]
    rw [this]
    exact ⟨_, rfl, IsInts.nil _ _ _, Below.refl _ _⟩

set_option maxHeartbeats 2000000 in
set_option maxRecDepth 100000 in
theorem forkCommon (l : List Br) (v : Value) (a b : Int) (w : World) (hl : IsBrs w v l) (hg : Good l) :
    Calls Tryd.prog 18 #[v, .int .i64 a, .int .i64 b] w fun e w' => e = .returned (.int .i64 (commonF (eventsZ l a) (eventsZ l b))) ∧ Below w.heap.size w w' := by
  have HL := Lib.hid hl; clear hl
  have HG := Lib.hid hg; clear hg
  obtain ⟨xs, HXS⟩ : ∃ xs, Hid (eventsZ l a = xs) := ⟨_, rfl⟩
  obtain ⟨ys, HYS⟩ : ∃ ys, Hid (eventsZ l b = ys) := ⟨_, rfl⟩
  go_enter Tryd.func18, Tryd.ntmps18
  go_wp2_with fail
  refine (forkEventsZ l v a w HL.out HG.out).mono ?_
  rintro e w1 ⟨v1, rfl, hv1, hb1⟩
  rw [HXS.out] at hv1
  have HV1 := Lib.hid hv1; clear hv1
  have HB1 := Lib.hid hb1; clear hb1
  go_wp2_with fail
  refine (forkEventsZ l v b w1 (HL.out.below HB1.out) HG.out).mono ?_
  rintro e w2 ⟨v2, rfl, hv2, hb2⟩
  rw [HYS.out] at hv2
  obtain ⟨a1, c1, e1, hm1, -, hc1⟩ := (HV1.out.below hb2).open
  obtain ⟨a2, c2, rfl, hm2, -, hc2⟩ := hv2.open
  subst e1
  have HC1 := Lib.hid hc1; clear hc1
  have HC2 := Lib.hid hc2; clear hc2
  have HB2 := Lib.hid (Below.to HB1.out hb2 HB1.out.size)
  clear hv2 hb2 HB1 HV1
  unfold maxLen at hm1 hm2
  by_cases hle : (xs.length : Int) ≤ (ys.length : Int)
  all_goals
    go_wp2_with fail
    go_loopw [9, 21] (fun _ c wr => ∃ k n : Nat, c = .int .i64 k ∧ k ≤ xs.length ∧ k ≤ ys.length ∧ wr = w2.drewN n ∧ Hid (xs.take k = ys.take k)) (fun _ c _ => xs.length - (intOf c).toNat)
    case atStart => exact ⟨0, 0, rfl, Nat.zero_le _, Nat.zero_le _, rfl, rfl⟩
    case round =>
      obtain ⟨k, n, rfl, hk1, hk2, rfl, HT⟩ := hrel
      by_cases hlt : k < xs.length ∧ k < ys.length
      · obtain ⟨hl1, hl2⟩ := hlt
        obtain ⟨b1, o1, rfl, d1⟩ := HC1.out k hl1
        obtain ⟨b2, o2, rfl, d2⟩ := HC2.out k hl2
        by_cases he : xs[k] = ys[k]
        · have hne : (xs[k] != ys[k]) = false := by simp [he]
          have HE := Lib.hid he; clear he
          go_wp2
          go_quiet (fail)
          go_wp2
          go_roundw
          case rel =>
            refine ⟨k + 1, _, by go_num, by omega, by omega, rfl, ?_⟩
            show _ = _
            rw [List.take_succ_eq_append_getElem hl1, List.take_succ_eq_append_getElem hl2, HT.out, HE.out]
          case measure => simp [intOf]; omega
        · have hne : (xs[k] != ys[k]) = true := by simp [he]
          have HE := Lib.hid (commonF_at xs ys k hl1 hl2 HT.out he)
          clear he
          go_wp2
          go_quiet (fail)
          go_wp2
          go_ret
          exact ⟨ret_int (by rw [HXS.out, HYS.out, HE.out]), below_drewN (below_drewN HB2.out _) _⟩
      · have HE := Lib.hid (commonF_end xs ys k (by omega) HT.out)
        have hlt2 : ¬ ((k : Int) < (xs.length : Int)) ∨ ¬ ((k : Int) < (ys.length : Int)) := by omega
        clear hlt
        go_wp2
        go_ret
        exact ⟨ret_int (by rw [HXS.out, HYS.out, HE.out]; omega), below_drewN HB2.out _⟩

end Go.Proofs.YtgfnelpfoegdaaaDoor
