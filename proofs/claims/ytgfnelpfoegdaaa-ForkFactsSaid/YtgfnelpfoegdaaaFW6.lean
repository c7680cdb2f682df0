/-
  Contracts of the reference's Ancestors, Depth, Events, Common.
-/
import Derived.Test.YtgfnelpfoegdaaaFW5
import Derived.Deep.RegionHeld3
namespace Go.Proofs.Ytgfnelpfoegdaaa
open Go.RowKit

set_option maxRecDepth 100000 in
theorem refAncestors (l : List Br) (v : Value) (b : Int) (w : World) (hl : IsBrs w v l) (hdec : DecPar l b) (hlen : (chainZ l b).length ≤ 1000000) :
    Calls Try.prog 31 #[v, .int .i64 b] w fun e w' => ∃ v', e = .returned v' ∧ IsInts w' v' (natInts (chainZ l b)) ∧ Below w.heap.size w w' := by
  obtain ⟨a, cap, hv, hl63, -, hc⟩ := hl.open
  subst hv
  unfold maxLen at hl63
  have HC := Lib.hid hc; clear hc hl
  have HD := Lib.hid hdec; clear hdec
  have HLEN := Lib.hid hlen; clear hlen
  go_enter Try.func31, Try.ntmps31
  go_wp2_with fail
  go_loopw [1, 5] (fun c o wr => ∃ (pre : List Nat) (cur : Int), c = .int .i64 cur ∧ cur ≤ b ∧ w.heap.size ≤ wr.heap.size ∧ Hid (pre ++ chainZ l cur = chainZ l b) ∧ Hid (wr.ownsRow w.heap.size 3 1 o pre.length (ints (natInts pre))) ∧ Hid (Below w.heap.size w wr)) (fun c _ _ => (intOf c + 1).toNat)
  case atStart => exact ⟨[], b, rfl, Int.le_refl _, Nat.le_refl _, rfl, World.ownsRow_nil _ _ _ _, Below.refl _ _⟩
  case round =>
    obtain ⟨pre, cur, rfl, hcb, hsz, HE, HO, HB⟩ := hrel
    by_cases hin : 0 ≤ cur ∧ cur < l.length
    · obtain ⟨k, rfl⟩ := Int.eq_ofNat_of_zero_le hin.1
      have hk : k < l.length := by omega
      have hd : decide ((0 : Int) ≤ (k : Int) ∧ (k : Int) < (l.length : Int)) = true := by simp; omega
      obtain ⟨bb, off, u, ha, -, c0, -, -, -, -⟩ := HC.out k hk
      subst ha
      have hx := List.getElem?_eq_getElem hk
      obtain ⟨hp1, hp2⟩ := HD.out k _ hcb hx
      have hch : Hid (chainZ l (k : Int) = k :: chainZ l l[k].parent) := by
        show _ = _
        rw [chainZ_nat, chain_some hx hp2]
      have hE2 : Hid ((pre ++ [k]) ++ chainZ l l[k].parent = chainZ l b) := by
        show _ = _
        rw [← HE.out, hch.out]; simp
      have hpl : pre.length + 1 ≤ 1000000 := by
        have h1 := congrArg List.length hE2.out
        have h2 := HLEN.out
        simp at h1
        omega
      have hblt : bb < w.heap.size := World.block_lt_of_cell? _ _ c0
      clear hin hx
      generalize l[k].parent = par at *
      have hsrc : Hid (Rd (wr.alloc (.cells #[.int .i64 (k : Int)] 3)) (.slice (some ⟨wr.heap.size, 0, none⟩) 1 1) 1 1 [.int .i64 (k : Int)]) := Rd.lit wr #[.int .i64 (k : Int)] 3 1 1 rfl (by unfold maxLen; omega)
      go_wp2_with (first | (go_at_call 50; refine (refhas_any _ _ _ _ _).mono ?_; rintro e w' ⟨rfl, rfl⟩) | (at_builtin; go_must (refine wpList_append_rd rfl _ _ 23 rfl w.heap.size 3 _ 1 8 Try.underlying23 infoInt rfl (by decide) u5 pre.length (ints (natInts pre)) rfl (HO.out.alloc _) _ 1 [.int .i64 (k : Int)] rfl hsrc.out (by intro c hc; simp at hc; subst hc; rfl) ?b1 ?b2 ?b3 ?_)))
      case b1 => unfold maxLen; omega
      case b2 => omega
      case b3 => simp; omega
      intro v' w1 hrow1 hg1
      have hB1 : Below w.heap.size w w1 := (HB.out.alloc hsz (.cells #[.int .i64 (k : Int)] 3)).grown hg1 (by simp; omega) (fun j hj => (HO.out.lt j hj).1)
      have hO1 : Hid (w1.ownsRow w.heap.size 3 1 v' (pre ++ [k]).length (ints (natInts (pre ++ [k])))) := by
        show World.ownsRow _ _ _ _ _ _ _
        simpa [natInts, ints] using hrow1
      have d0 : w1.cell? ⟨bb, off + k * 5, none⟩ = some (.int .i64 par) := by rw [hB1.cell hblt]; exact c0
      have hs1 := hB1.size
      have HB1 := Lib.hid hB1
      clear hB1 hrow1 hg1 c0
      go_wp2
      go_roundw
      case rel => exact ⟨pre ++ [k], par, rfl, by omega, hs1, hE2, hO1, HB1⟩
      case measure => simp [intOf]; omega
    · have hd : decide ((0 : Int) ≤ cur ∧ cur < (l.length : Int)) = false := by simpa using hin
      have hch : Hid (chainZ l cur = []) := by
        show _ = _
        by_cases h0 : cur < 0
        · exact chainZ_neg h0
        · exact chainZ_big (by omega)
      clear hin
      go_wp2_with (go_at_call 50; refine (refhas_any _ _ _ _ _).mono ?_; rintro e w' ⟨rfl, rfl⟩)
      go_ret
      have h1 := HE.out
      rw [hch.out, List.append_nil] at h1
      rw [← h1]
      exact ⟨_, rfl, IsInts.of_owns HO.out, HB.out⟩

theorem natInts_len (xs : List Nat) : (natInts xs).length = xs.length := by simp [natInts]

theorem refDepth (l : List Br) (v : Value) (b : Int) (w : World) (hl : IsBrs w v l) (hdec : DecPar l b) (hlen : (chainZ l b).length ≤ 1000000) :
    Calls Try.prog 33 #[v, .int .i64 b] w fun e w' => e = .returned (.int .i64 (depthZ l b)) ∧ Below w.heap.size w w' := by
  obtain ⟨a, cap, hv, -, -, -⟩ := hl.open
  subst hv
  have HL := Lib.hid hl; clear hl
  have HD := Lib.hid hdec; clear hdec
  have HN := Lib.hid hlen; clear hlen
  go_enter Try.func33, Try.ntmps33
  go_wp2_with fail
  refine (refAncestors l _ b w HL.out HD.out HN.out).mono ?_
  rintro e w1 ⟨v1, rfl, hv1, hb1⟩
  obtain ⟨a1, c1, rfl, -, -, -⟩ := hv1.open
  rw [natInts_len]
  have hn := HN.out
  have HB := Lib.hid hb1
  clear hb1 hv1
  go_wp2
  all_goals
    go_ret
    exact ⟨ret_int (by unfold depthZ; omega), HB.out⟩

theorem rd_len {w : World} {v : Value} {xs : List Int} {k : Nat} (h : IsInts w v xs) (hk : xs.length = k) : Rd w v 1 k (ints xs) := by
  subst hk; exact h

set_option maxHeartbeats 1000000 in
set_option maxRecDepth 100000 in
theorem refEvents (l : List Br) (v : Value) : ∀ (b : Nat) (x : Br) (w : World), IsBrs w v l → l[b]? = some x → StrB l b → sz x ≤ 1000000 → (∀ (i : Nat) y, (i : Int) ≤ b → l[i]? = some y → sz y ≤ 1000000) →
    Calls Try.prog 29 #[v, .int .i64 b] w fun e w' => ∃ v', e = .returned v' ∧ IsInts w' v' (events l b) ∧ Below w.heap.size w w' := by
  intro b
  induction b using Nat.strongRecOn with
  | ind b ih =>
    intro x w hl hx hstr hlen hall
    obtain ⟨hlt, hxx⟩ := List.getElem?_eq_some_iff.1 hx
    obtain ⟨hp1, hp2, hp3, hp4⟩ := hstr b x (Int.le_refl _) hx
    have hev := events_some hx hp2
    have hevl := events_len b x hstr hx
    obtain ⟨a, cap, hv, hl63, -, hc⟩ := hl.open
    subst hv
    unfold maxLen at hl63
    obtain ⟨bb, off, u, ha, hu, c0, -, c2, c3, -⟩ := hc b hlt
    subst ha
    rw [hxx] at hu c0 c2
    obtain ⟨A, hA⟩ := Int.eq_ofNat_of_zero_le hp3
    rw [hA] at c2
    have hd : decide ((0 : Int) ≤ (b : Int) ∧ (b : Int) < (l.length : Int)) = true := by simp; omega
    have hol : x.own.length ≤ 1000000 := by unfold sz at hlen; omega
    by_cases hpar : x.parent < 0
    · rw [eventsZ_neg hpar] at hev
      simp only [List.take_nil, List.nil_append] at hev
      have hdp : decide ((0 : Int) ≤ x.parent) = false := by simp; omega
      have HEV := Lib.hid hev
      have HU := Lib.hid hu
      clear hc hl ih hstr hall hx hxx hev hevl hu
      go_enter Try.func29, Try.ntmps29
      go_wp2_with (first | (go_at_call 50; refine (refhas_any _ _ _ _ _).mono ?_; rintro e w' ⟨rfl, rfl⟩) | (at_builtin; go_must (refine wpList_append_rd rfl _ _ 23 rfl w.heap.size 3 _ 1 8 Try.underlying23 infoInt rfl (by decide) _ 0 [] rfl (World.ownsRow_nil _ _ _ _) u x.own.length (ints x.own) rfl HU.out (ints_one _) ?b1 ?b2 ?b3 ?_)))
      case b1 => unfold maxLen; omega
      case b2 => omega
      case b3 => exact Nat.le_refl _
      intro v' w1 hrow1 hg1
      have hB1 : Below w.heap.size w w1 := below_append (Below.refl _ _) (World.ownsRow_nil w w.heap.size 3 1) hg1 (Nat.le_refl _)
      have hR : Hid (IsInts w1 v' (events l b)) := by
        show IsInts _ _ _
        rw [HEV.out]
        exact IsInts.of_owns (by simpa using hrow1)
      have HB1 := Lib.hid hB1
      clear hB1 hrow1 hg1
      go_wp2
      go_ret
      exact ⟨_, rfl, hR.out, HB1.out⟩
    · obtain ⟨p, hp⟩ := Int.eq_ofNat_of_zero_le (by omega : 0 ≤ x.parent)
      rw [hp] at hev hp2 c0
      rw [eventsZ_nat] at hev
      have hpb : p < b := by omega
      obtain ⟨y, hy⟩ : ∃ y, l[p]? = some y := ⟨_, List.getElem?_eq_getElem (by omega)⟩
      have hyl := events_len p y (hstr.mono (by omega)) hy
      have hmost : most l x = sz y := by unfold most; rw [hp, if_neg (by omega)]; simp [hy]
      have hya : A ≤ (events l p).length := by omega
      have hyz := hall p y (by omega) hy
      have hel6 : (events l p).length ≤ 1000000 := by omega
      have IH := Lib.hid (fun w' hw' => ih p hpb y w' hw' hy (hstr.mono (by omega)) hyz (fun i z hi hz => hall i z (by omega) hz))
      have hdp : decide ((0 : Int) ≤ (p : Int)) = true := by simp
      have hblt : bb < w.heap.size := World.block_lt_of_cell? _ _ c0
      simp only [hA, Int.toNat_natCast] at hev
      have HEV := Lib.hid hev
      have HU := Lib.hid hu
      have HL := Lib.hid hl
      have hA0 : (0 : Int) ≤ (A : Int) := by omega
      have HLE := Lib.hid hya
      have HA1 : Hid (0 + A ≤ maxLen) := (by show _ ≤ _; unfold maxLen; omega)
      have HA2 : Hid ((0 + A) * 8 ≤ 140737488355328) := (by show _ ≤ _; omega)
      clear hc hl ih hstr hall hx hxx hev hevl hu hyl hmost hy hp hp4 hA hyz
      go_enter Try.func29, Try.ntmps29
      go_wp2_with (first | (go_at_call 50; refine (refhas_any _ _ _ _ _).mono ?_; rintro e w' ⟨rfl, rfl⟩))
      go_region_held3 (fun w' => w'.cell? ⟨bb, off + b * 5, none⟩ = some (.int .i64 (p : Int)) ∧ w'.cell? ⟨bb, off + b * 5 + 2, none⟩ = some (.int .i64 (A : Int)))
        (first
          | exact ⟨m1, m2⟩
          | exact ⟨k1, k2⟩
          | go_keep)
        (first
          | (go_at_call 29
             refine (IH.out _ (HL.out.below (Below.refl _ _).drew)).mono ?_
             rintro e w1 ⟨v1, rfl, hv1, hb1⟩
             obtain ⟨a1, cap1, rfl, hm1, hn1, -⟩ := hv1.open
             have k1 : w1.cell? ⟨bb, off + b * 5, none⟩ = some (.int .i64 (p : Int)) := (by rw [hb1.cell hblt]; exact c0)
             have k2 : w1.cell? ⟨bb, off + b * 5 + 2, none⟩ = some (.int .i64 (A : Int)) := (by rw [hb1.cell hblt]; exact c2)
             have hcut : (A : Int) ≤ (cap1 : Int) := (by have := HLE.out; omega)
             have HV1 : Hid (Rd w1 (.slice a1 A cap1) 1 A (ints ((events l p).take A))) := rd_len (hv1.take A HLE.out) (by rw [List.length_take]; exact Nat.min_eq_left HLE.out)
             have HB1 := Lib.hid hb1
             clear hb1 hv1)
          | (refine step_append_rd (by rfl) _ _ 23 (by rfl) w.heap.size 3 _ 1 8 Try.underlying23 infoInt rfl (by decide) _ 0 [] (by rfl) (World.ownsRow_nil _ _ _ _) _ A (ints ((events l p).take A)) (by rfl) HV1.out (ints_one _) HA1.out HA2.out HB1.out.size ?_
             intro v2 w2 hv2 hg2
             have m1 : w2.cell? ⟨bb, off + b * 5, none⟩ = some (.int .i64 (p : Int)) := (by rw [cell_grown hg2 (Nat.lt_of_lt_of_le hblt HB1.out.size) (by simp [Value.ownBlock])]; exact k1)
             have m2 : w2.cell? ⟨bb, off + b * 5 + 2, none⟩ = some (.int .i64 (A : Int)) := (by rw [cell_grown hg2 (Nat.lt_of_lt_of_le hblt HB1.out.size) (by simp [Value.ownBlock])]; exact k2)
             have HB2 : Hid (Below w.heap.size w w2) := below_append (Below.trans (Below.refl _ _).drew HB1.out) (World.ownsRow_nil w1 w.heap.size 3 1) hg2 HB1.out.size
             have HV2 := Lib.hid hv2
             clear hv2 hg2 k1 k2))
      have d3 : w2.cell? ⟨bb, off + b * 5 + 3, none⟩ = some u := by rw [HB2.out.cell hblt]; exact c3
      have HU2 := Lib.hid (HU.out.below HB2.out)
      have hv3 : Hid (w2.ownsRow w.heap.size 3 1 v2 A (ints ((events l p).take A))) := by
        show World.ownsRow _ _ _ _ _ _ _
        simpa using HV2.out
      have hs2 := HB2.out.size
      clear m1 m2 c3 c0 c2 HV2
      go_wp2_with (at_builtin; go_must (refine wpList_append_rd rfl _ _ 23 rfl w.heap.size 3 _ 1 8 Try.underlying23 infoInt rfl (by decide) v2 A (ints ((events l p).take A)) rfl hv3.out u x.own.length (ints x.own) rfl HU2.out (ints_one _) ?b1 ?b2 ?b3 ?_))
      case b1 => have := HLE.out; unfold maxLen; omega
      case b2 => have := HLE.out; omega
      case b3 => exact hs2
      intro v' w3 hrow3 hg3
      have hB3 : Below w.heap.size w w3 := below_append HB2.out hv3.out hg3 hs2
      have hR : Hid (IsInts w3 v' (events l b)) := by
        show IsInts _ _ _
        rw [HEV.out]
        refine IsInts.of_owns (B := w.heap.size) (e := 3) (n := A + x.own.length) ?_
        rw [ints_append]
        exact hrow3
      have HB3 := Lib.hid hB3
      clear hB3 hrow3 hg3
      go_wp2
      go_ret
      exact ⟨_, rfl, hR.out, HB3.out⟩

theorem refEvents_none (l : List Br) (v : Value) (b : Int) (w : World) (hl : IsBrs w v l) (hb : ¬ (0 ≤ b ∧ b < l.length)) :
    Calls Try.prog 29 #[v, .int .i64 b] w fun e w' => e = .returned (.slice none 0 0) ∧ w = w' := by
  obtain ⟨a, cap, hv, -, -, -⟩ := hl.open
  subst hv
  have hd : decide ((0 : Int) ≤ b ∧ b < (l.length : Int)) = false := by simpa using hb
  clear hl hb
  go_enter Try.func29, Try.ntmps29
  go_wp2_with (go_at_call 50; refine (refhas_any _ _ _ _ _).mono ?_; rintro e w' ⟨rfl, rfl⟩)
  go_ret
  exact ⟨rfl, rfl⟩

end Go.Proofs.Ytgfnelpfoegdaaa
