/-
  The program's Days, Extend; SameSpans of lists that read alike.
-/
import Derived.Test.YtkcmkpljpmfiaaaDoorMrg
namespace Go.Proofs.YtkcmkpljpmfiaaaDoor
open Go.RowKit

theorem perm_sorted_eq : ∀ (l l' : List (Int × Int)), l.Pairwise (fun a b => a.1 < b.1) → l'.Perm l → l'.Pairwise (fun a b => a.1 ≤ b.1) → l' = l
  | [], l', _, hp, _ => List.Perm.eq_nil hp
  | a :: t, [], _, hp, _ => by have := hp.length_eq; simp at this
  | a :: t, b :: t', hs, hp, hs' => by
    rw [List.pairwise_cons] at hs hs'
    have hab : b = a := by
      have hb : b ∈ a :: t := hp.mem_iff.1 (by simp)
      have ha : a ∈ b :: t' := hp.mem_iff.2 (by simp)
      rcases List.mem_cons.1 hb with h | h
      · exact h
      · rcases List.mem_cons.1 ha with h' | h'
        · exact h'.symm
        · have h1 := hs.1 b h
          have h2 := hs'.1 a h'
          omega
    subst hab
    rw [perm_sorted_eq t t' hs.2 (List.Perm.cons_inv hp) hs'.2]

theorem mrgRev_B : ∀ (l acc : List (Int × Int)), SpB l → SpB acc → SpB (mrgRev acc l)
  | [], acc, _, h => h
  | s :: r, acc, hl, h => mrgRev_B r _ (fun x hx => hl x (by simp [hx])) (mrgStep_B (hl s (by simp)) h)
theorem mrgRev_len : ∀ (l acc : List (Int × Int)), (mrgRev acc l).length ≤ acc.length + l.length
  | [], acc => Nat.le_refl _
  | s :: r, acc => by
    have h1 := mrgRev_len r (mrgStep s acc)
    have h2 : (mrgStep s acc).length ≤ acc.length + 1 := by
      cases acc with
      | nil => simp [mrgStep_nil]
      | cons p q =>
        by_cases hc : s.1 ≤ p.2 + 1
        · rw [mrgStep_in hc]; simp
        · rw [mrgStep_out hc]; simp
    show (mrgRev (mrgStep s acc) r).length ≤ _
    simp only [List.length_cons]
    omega
theorem mrgF_B {l : List (Int × Int)} (h : SpB l) : SpB (mrgF l) := fun x hx => mrgRev_B l [] h (fun y hy => by cases hy) x (by simpa [mrgF] using hx)
theorem mrgF_len (l : List (Int × Int)) : (mrgF l).length ≤ l.length := by
  have := mrgRev_len l []
  simpa [mrgF] using this

def dayOf (f u : Int) (s : Int × Int) : Int := max 0 (min s.2 u - max s.1 f + 1)
def daysF (f u : Int) (m : List (Int × Int)) : Int := m.foldl (fun n s => n + dayOf f u s) 0
theorem daysF_take {f u : Int} {m : List (Int × Int)} {k : Nat} (hk : k < m.length) : daysF f u (m.take (k + 1)) = daysF f u (m.take k) + dayOf f u m[k] := by
  unfold daysF
  rw [List.take_succ_eq_append_getElem hk, List.foldl_append]
  rfl

def extGo (st : Int) : Int → List (Int × Int) → Int
  | due, [] => due
  | due, s :: r => if due < s.1 then due else extGo st (due + max 0 (s.2 - max s.1 (st + 1) + 1)) r
def extF (st due : Int) (m : List (Int × Int)) : Int × Int :=
  if due ≤ st then (due, 0) else if 3652058 < extGo st due m then (0, 31) else (extGo st due m, 0)
theorem extGo_stop {st due : Int} {m : List (Int × Int)} {k : Nat} (hk : k < m.length) (h : due < m[k].1) : extGo st due (m.drop k) = due := by
  rw [List.drop_eq_getElem_cons hk]
  unfold extGo
  rw [if_pos h]
theorem extGo_step {st due : Int} {m : List (Int × Int)} {k : Nat} (hk : k < m.length) (h : ¬ due < m[k].1) : extGo st due (m.drop k) = extGo st (due + max 0 (m[k].2 - max m[k].1 (st + 1) + 1)) (m.drop (k + 1)) := by
  rw [List.drop_eq_getElem_cons hk]
  conv => lhs; unfold extGo
  rw [if_neg h]
theorem extGo_end {st due : Int} {m : List (Int × Int)} : extGo st due (m.drop m.length) = due := by
  rw [List.drop_length]; rfl

theorem sorted_perm (l : List (Int × Int)) : (l.mergeSort (fun a b => decide (a.1 ≤ b.1))).Perm l ∧ (l.mergeSort (fun a b => decide (a.1 ≤ b.1))).Pairwise (fun a b => a.1 ≤ b.1) := by
  refine ⟨List.mergeSort_perm _ _, ?_⟩
  have h := List.pairwise_mergeSort (le := fun a b : Int × Int => decide (a.1 ≤ b.1)) (fun a b c h1 h2 => by simp at *; omega) (fun a b => by simp; omega) l
  exact h.imp (fun h => by simpa using h)

/-- A day that a contract may speak of. -/
def DayB (n : Int) : Prop := -1000000000000 ≤ n ∧ n ≤ 1000000000000

/-- One span of a slice of spans, as a walk reads it. -/
theorem IsSps.at {w : World} {v : Value} {l : List (Int × Int)} (h : IsSps w v l) {k : Nat} (hk : k < l.length) :
    ∃ b off cap, v = .slice (some ⟨b, off, none⟩) l.length cap ∧ b < w.heap.size ∧ w.cell? ⟨b, off + k * 2, none⟩ = some (.int .i64 l[k].1) ∧ w.cell? ⟨b, off + k * 2 + 1, none⟩ = some (.int .i64 l[k].2) := by
  obtain ⟨a, cap, rfl, -, -, hc⟩ := h.open
  obtain ⟨b, off, rfl, h1, c0, c1⟩ := hc k hk
  exact ⟨b, off, cap, rfl, h1, c0, c1⟩

set_option maxHeartbeats 2000000 in
set_option maxRecDepth 100000 in
theorem days_any (l : List (Int × Int)) (v : Value) (f u : Int) (w : World) (hx : IsSps w v l) (hl : l.length ≤ 100000) (hb : SpB l) (hf : DayB f) (hu : DayB u) :
    Calls Tryd.prog 9 #[v, .int .i64 f, .int .i64 u] w fun e w' => ∃ n, e = .returned (.int .i64 n) ∧ ∃ l', (l'.Perm l ∧ l'.Pairwise (fun a b => a.1 ≤ b.1)) ∧ n = daysF f u (mrgF l') ∧ Below w.heap.size w w' := by
  have HM := Lib.hid (merge_any l v w hx hl hb)
  have HB := Lib.hid hb
  unfold DayB at hf hu
  obtain ⟨hf1, hf2⟩ := hf
  obtain ⟨hu1, hu2⟩ := hu
  clear hx hb
  go_enter Tryd.func9, Tryd.ntmps9
  go_wp2_with fail
  refine HM.out.mono ?_
  rintro e w1 ⟨v1, rfl, l', hp, hv1, hb1⟩
  have HP := Lib.hid hp
  have hml : (mrgF l').length ≤ 100000 := by have := mrgF_len l'; have := hp.1.length_eq; omega
  have HMB := Lib.hid (mrgF_B (l := l') (fun x hx => HB.out x (hp.1.mem_iff.1 hx)))
  have HB1 := Lib.hid hb1
  have HV1 := Lib.hid hv1
  obtain ⟨a1, c1, rfl, -, -, -⟩ := hv1.open
  obtain ⟨m, hm⟩ : ∃ m, mrgF l' = m := ⟨_, rfl⟩
  rw [hm] at HV1 HMB hml ⊢
  have HMM := Lib.hid hm
  clear hp hb1 hv1 hm HM HB
  go_wp2_with fail
  go_loopw [7, 13] (fun a i wr => ∃ (k : Nat) (n : Int), a = .int .i64 n ∧ i = .int .i64 k ∧ k ≤ m.length ∧ 0 ≤ n ∧ n ≤ 4000000000000 * (k : Int) ∧ Hid (n = daysF f u (m.take k)) ∧ w1.heap.size ≤ wr.heap.size ∧ Hid (Below w1.heap.size w1 wr)) (fun _ i _ => m.length - (intOf i).toNat)
  case atStart => exact ⟨0, 0, rfl, rfl, Nat.zero_le _, by omega, by omega, Lib.hid rfl, Nat.le_refl _, Lib.hid (Below.refl _ _)⟩
  case round =>
    obtain ⟨k, n, rfl, rfl, hk, hn0, hnk, HN, hsz, HBR⟩ := hrel
    by_cases hkl : k < m.length
    · obtain ⟨b5, o5, q5, e5, hlt5, c0, c1'⟩ := (HV1.out.below HBR.out).at hkl
      simp only [Value.slice.injEq, true_and] at e5
      obtain ⟨rfl, -⟩ := e5
      have hsB := HMB.out m[k] (List.getElem_mem hkl)
      have HT : Hid (daysF f u (m.take (k + 1)) = n + dayOf f u m[k]) := by show _ = _; rw [daysF_take hkl, HN.out]
      generalize m[k] = s at *
      obtain ⟨s1, s2⟩ := s
      simp only at c0 c1' hsB
      obtain ⟨hs1a, hs1b, hs2a, hs2b⟩ := hsB
      have HB9 := Lib.hid (Below.to HBR.out ((Below.refl wr.heap.size wr).alloc (Nat.le_refl _) (.cells #[.int .i64 s1, .int .i64 s2] 36)) hsz)
      have hs9 := HB9.out.size
      have q1 : IntKind.i64.wrap (min s2 u - max s1 f) = min s2 u - max s1 f := by rw [IntKind.wrap_i64]; omega
      have q2 : IntKind.i64.wrap (min s2 u - max s1 f + 1) = min s2 u - max s1 f + 1 := by rw [IntKind.wrap_i64]; omega
      have q3 : IntKind.i64.wrap (n + max 0 (min s2 u - max s1 f + 1)) = n + max 0 (min s2 u - max s1 f + 1) := by rw [IntKind.wrap_i64]; omega
      have HT2 : Hid (n + max 0 (min s2 u - max s1 f + 1) = daysF f u (m.take (k + 1))) := HT.out.symm
      clear HN HT
      go_wp2_with fail
      go_roundw
      case rel => exact ⟨k + 1, n + max 0 (min s2 u - max s1 f + 1), rfl, by go_num, by omega, by omega, by omega, HT2, hs9, HB9⟩
      case measure => simp [intOf]; omega
    · obtain rfl : k = m.length := by omega
      have HF : Hid (n = daysF f u (mrgF l')) := by
        show _ = _
        rw [HMM.out, HN.out, List.take_length]
      have HB9 := Lib.hid (Below.to HB1.out HBR.out HB1.out.size)
      clear HN HBR
      go_wp2_with fail
      go_ret
      exact ⟨_, rfl, l', HP.out, HF.out, HB9.out⟩

set_option maxHeartbeats 2000000 in
set_option maxRecDepth 100000 in
theorem extend_any (l : List (Int × Int)) (v : Value) (st due : Int) (w : World) (hx : IsSps w v l) (hl : l.length ≤ 100000) (hb : SpB l) (hst : DayB st) (hdue : DayB due) :
    Calls Tryd.prog 6 #[.int .i64 st, .int .i64 due, v] w fun e w' => ∃ x y : Int, e = .returned (.tuple #[.int .i64 x, .int .i64 y]) ∧ ∃ l', (l'.Perm l ∧ l'.Pairwise (fun a b => a.1 ≤ b.1)) ∧ (x, y) = extF st due (mrgF l') ∧ Below w.heap.size w w' := by
  have HM := Lib.hid (merge_any l v w hx hl hb)
  have HB := Lib.hid hb
  unfold DayB at hst hdue
  obtain ⟨hst1, hst2⟩ := hst
  obtain ⟨hdue1, hdue2⟩ := hdue
  clear hx hb
  by_cases hle : due ≤ st
  · obtain ⟨l', hps⟩ : ∃ l' : List (Int × Int), l'.Perm l ∧ l'.Pairwise (fun a b => a.1 ≤ b.1) := ⟨_, sorted_perm l⟩
    have HP := Lib.hid hps
    have HR : Hid ((due, (0 : Int)) = extF st due (mrgF l')) := by show _ = _; unfold extF; rw [if_pos hle]
    clear hps
    go_enter Tryd.func6, Tryd.ntmps6
    go_wp2_with fail
    go_ret2
    exact ⟨due, 0, rfl, l', HP.out, HR.out, Below.refl _ _⟩
  · have hlt : st < due := by omega
    have HDU := Lib.hid hle
    have hws : IntKind.i64.wrap (st + 1) = st + 1 := by rw [IntKind.wrap_i64]; omega
    clear hle
    go_enter Tryd.func6, Tryd.ntmps6
    go_wp2_with fail
    refine HM.out.mono ?_
    rintro e w1 ⟨v1, rfl, l', hp, hv1, hb1⟩
    have HP := Lib.hid hp
    have hml : (mrgF l').length ≤ 100000 := by have := mrgF_len l'; have := hp.1.length_eq; omega
    have HMB := Lib.hid (mrgF_B (l := l') (fun x hx => HB.out x (hp.1.mem_iff.1 hx)))
    have HB1 := Lib.hid hb1
    have HV1 := Lib.hid hv1
    obtain ⟨a1, c1, rfl, -, -, -⟩ := hv1.open
    obtain ⟨m, hm⟩ : ∃ m, mrgF l' = m := ⟨_, rfl⟩
    rw [hm] at HV1 HMB hml ⊢
    have HMM := Lib.hid hm
    clear hp hb1 hv1 hm HM HB
    go_wp2_with fail
    go_loopw [1, 17] (fun a i wr => ∃ (k : Nat) (d : Int), a = .int .i64 d ∧ i = .int .i64 k ∧ k ≤ m.length ∧ due ≤ d ∧ d ≤ due + 4000000000000 * (k : Int) ∧ Hid (extGo st due m = extGo st d (m.drop k)) ∧ w1.heap.size ≤ wr.heap.size ∧ Hid (Below w1.heap.size w1 wr)) (fun _ i _ => m.length - (intOf i).toNat)
    case atStart => exact ⟨0, due, rfl, rfl, Nat.zero_le _, by omega, by omega, Lib.hid (by rw [List.drop_zero]), Nat.le_refl _, Lib.hid (Below.refl _ _)⟩
    case round =>
      obtain ⟨k, d, rfl, rfl, hk, hd0, hdk, HN, hsz, HBR⟩ := hrel
      by_cases hkl : k < m.length
      · obtain ⟨b5, o5, q5, e5, hlt5, c0, c1'⟩ := (HV1.out.below HBR.out).at hkl
        simp only [Value.slice.injEq, true_and] at e5
        obtain ⟨rfl, -⟩ := e5
        have hsB := HMB.out m[k] (List.getElem_mem hkl)
        have HSTOP : Hid (d < m[k].1 → extGo st due m = d) := fun h => by rw [HN.out, extGo_stop hkl h]
        have HSTEP : Hid (¬ d < m[k].1 → extGo st due m = extGo st (d + max 0 (m[k].2 - max m[k].1 (st + 1) + 1)) (m.drop (k + 1))) := fun h => by rw [HN.out, extGo_step hkl h]
        generalize m[k] = s at *
        obtain ⟨s1, s2⟩ := s
        simp only at c0 c1' hsB HSTOP HSTEP
        obtain ⟨hs1a, hs1b, hs2a, hs2b⟩ := hsB
        have HB9 := Lib.hid (Below.to HBR.out ((Below.refl wr.heap.size wr).alloc (Nat.le_refl _) (.cells #[.int .i64 s1, .int .i64 s2] 36)) hsz)
        have hs9 := HB9.out.size
        by_cases hgt : d < s1
        · have HD : Hid (extGo st due m = d) := HSTOP.out hgt
          have HBX := HB9
          clear HN HSTOP HSTEP HBR HB9
          by_cases hbig : 3652058 < d
          · have HR : Hid (((0 : Int), (31 : Int)) = extF st due (mrgF l')) := by
              show _ = _
              unfold extF
              rw [if_neg (Int.not_le.2 HDU.out), HMM.out, HD.out, if_pos hbig]
            have HB9 := Lib.hid (Below.to HB1.out HBX.out HB1.out.size)
            clear HBX HD
            go_wp2_with fail
            go_ret2
            exact ⟨0, 31, rfl, l', HP.out, HR.out, HB9.out⟩
          · have HR : Hid ((d, (0 : Int)) = extF st due (mrgF l')) := by
              show _ = _
              unfold extF
              rw [if_neg (Int.not_le.2 HDU.out), HMM.out, HD.out, if_neg hbig]
            have HB9 := Lib.hid (Below.to HB1.out HBX.out HB1.out.size)
            have hbig2 : d ≤ 3652058 := by omega
            clear HBX HD
            go_wp2_with fail
            go_ret2
            exact ⟨d, 0, rfl, l', HP.out, HR.out, HB9.out⟩
        · have HD2 : Hid (extGo st due m = extGo st (d + max 0 (s2 - max s1 (st + 1) + 1)) (m.drop (k + 1))) := HSTEP.out hgt
          have hgt2 : s1 ≤ d := by omega
          have q1 : IntKind.i64.wrap (s2 - max s1 (st + 1)) = s2 - max s1 (st + 1) := by rw [IntKind.wrap_i64]; omega
          have q2 : IntKind.i64.wrap (s2 - max s1 (st + 1) + 1) = s2 - max s1 (st + 1) + 1 := by rw [IntKind.wrap_i64]; omega
          have q3 : IntKind.i64.wrap (d + max 0 (s2 - max s1 (st + 1) + 1)) = d + max 0 (s2 - max s1 (st + 1) + 1) := by rw [IntKind.wrap_i64]; omega
          clear HN HSTOP HSTEP hgt
          go_wp2_with fail
          go_roundw
          case rel => exact ⟨k + 1, d + max 0 (s2 - max s1 (st + 1) + 1), rfl, by go_num, by omega, by omega, by omega, HD2, hs9, HB9⟩
          case measure => simp [intOf]; omega
      · obtain rfl : k = m.length := by omega
        have HD : Hid (extGo st due m = d) := by show _ = _; rw [HN.out, extGo_end]
        have HBX := HBR
        clear HN HBR
        by_cases hbig : 3652058 < d
        · have HR : Hid (((0 : Int), (31 : Int)) = extF st due (mrgF l')) := by
            show _ = _
            unfold extF
            rw [if_neg (Int.not_le.2 HDU.out), HMM.out, HD.out, if_pos hbig]
          have HB9 := Lib.hid (Below.to HB1.out HBX.out HB1.out.size)
          clear HBX HD
          go_wp2_with fail
          go_ret2
          exact ⟨0, 31, rfl, l', HP.out, HR.out, HB9.out⟩
        · have HR : Hid ((d, (0 : Int)) = extF st due (mrgF l')) := by
            show _ = _
            unfold extF
            rw [if_neg (Int.not_le.2 HDU.out), HMM.out, HD.out, if_neg hbig]
          have HB9 := Lib.hid (Below.to HB1.out HBX.out HB1.out.size)
          have hbig2 : d ≤ 3652058 := by omega
          clear HBX HD
          go_wp2_with fail
          go_ret2
          exact ⟨d, 0, rfl, l', HP.out, HR.out, HB9.out⟩

end Go.Proofs.YtkcmkpljpmfiaaaDoor
