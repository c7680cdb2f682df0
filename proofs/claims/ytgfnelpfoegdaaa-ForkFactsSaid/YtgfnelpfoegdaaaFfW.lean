/-
  The law ForkFacts: its walk.
-/
import Derived.Test.YtgfnelpfoegdaaaFfU
import Derived.Test.YtgfnelpfoegdaaaFfV
import Derived.Test.YtgfnelpfoegdaaaFWm
namespace Go.Proofs.Ytgfnelpfoegdaaa
open Go.RowKit

theorem vsF_take (xs : List Int) (T : Nat) : (vsF xs).take T = vsF (xs.take T) := by
  apply List.ext_getElem?
  intro i
  unfold vsF
  rw [List.getElem?_mapIdx, List.getElem?_take, List.getElem?_take, List.getElem?_mapIdx]
  by_cases h : i < T
  · rw [if_pos h, if_pos h]
  · rw [if_neg h, if_neg h]; rfl
theorem vsF_at (xs : List Int) (i : Nat) (h : i < (vsF xs).length) : (vsF xs)[i] = ⟨i, factE (xs[i]'(by rw [vsF_len] at h; exact h)) i⟩ := by
  simp [vsF]
theorem vsF_drop (xs : List Int) (T : Nat) : ∀ x ∈ (vsF xs).drop T, (T : Int) ≤ x.op := by
  intro x hx
  obtain ⟨i, hi, rfl⟩ := List.mem_iff_getElem.1 hx
  rw [List.length_drop] at hi
  rw [List.getElem_drop, vsF_at xs (T + i) (by omega)]
  simp only
  omega
theorem vsF_vsOk (xs : List Int) : VsOk (vsF xs) := fun i h => by
  rw [vsF_at xs i h]
  exact ⟨factE_ok _ _, rfl⟩
theorem vsF_ent (xs : List Int) : ∀ i (h : i < (vsF xs).length), 0 ≤ (vsF xs)[i].f.ent ∧ (vsF xs)[i].f.ent < 6 := fun i h => by
  rw [vsF_at xs i h]
  exact ⟨around_lo _ _ (by omega), around_hi _ _ (by omega)⟩
/-- What two branches share is known in the same way. -/
theorem known_alike {xs ys : List Int} {T : Nat} {M : Int} (h : xs.take T = ys.take T) (hM : M < T) : knownD M (vsF xs) = knownD M (vsF ys) := by
  rw [knownD_take M (vsF xs) T (fun x hx => by have := vsF_drop xs T x hx; omega), knownD_take M (vsF ys) T (fun x hx => by have := vsF_drop ys T x hx; omega), vsF_take, vsF_take, h]

set_option maxHeartbeats 2000000 in
set_option maxRecDepth 100000 in
theorem forkFacts_any (xs : List Int) (v : Value) (which op : Int) (w : World) (hx : IsInts w v xs) (hw : ∀ x ∈ xs, I64 x) (hi : I64 which) (hop : I64 op) :
    Calls Try.prog 10 #[v, .int .i64 which, .int .i64 op] w fun e w' => e = .returned (.bool true) ∧ Below w.heap.size w w' := by
  have HBR := Lib.hid (branches_own xs v w hx hw)
  clear hx hw
  unfold I64 at hop
  go_enter Try.func10, Try.ntmps10
  go_wp2_with fail
  refine HBR.out.mono ?_
  rintro e w0 ⟨v0, rfl, l, hl0, ⟨hg, hown⟩, hb0⟩
  have hl256 := hg.1.1
  obtain ⟨k, hkk, hkl⟩ := around_nat' (n := which) (m := l.length) hg.2
  have HAR := Lib.hid (around_any which l.length hi (by have := hg.2; omega) w0)
  rw [hkk] at HAR
  obtain ⟨x, hxk⟩ : ∃ x, l[k]? = some x := ⟨_, List.getElem?_eq_getElem hkl⟩
  obtain ⟨bb, off, cap, u, rfl, -, hblt, c0, -, c2, -, -⟩ := hl0.at' hxk
  have HG := Lib.hid hg.1
  have HL0 := Lib.hid hl0
  have HB0 := Lib.hid hb0
  have hs0 := hb0.size
  clear hl0 hb0 hkk hi HBR
  go_wp2_with fail
  refine HAR.out.mono ?_
  rintro e w' ⟨rfl, rfl⟩
  clear HAR
  by_cases hp0 : x.parent < 0
  · go_wp2_with fail
    refine (lives_any _).mono ?_
    rintro e w99 ⟨rfl, hb99⟩
    go_wp2_with fail
    go_ret
    exact ⟨rfl, Below.to HB0.out hb99 HB0.out.size⟩
  obtain ⟨p, hp⟩ := Int.eq_ofNat_of_zero_le (by omega : 0 ≤ x.parent)
  have hok := HG.out.ok hxk
  have hmo := eventsZ_most (HG.out.str k) hxk
  have hra := events_own hown k
  have hrp := events_own hown p
  have hea := eventsZ_le' HG.out k
  have hep := eventsZ_le' HG.out p
  have hev := events_some hxk hok.p2
  rw [hp, eventsZ_nat] at hmo hev
  rw [eventsZ_nat] at hea hep
  obtain ⟨T, hT⟩ : ∃ T : Nat, x.at_ = (T : Int) := ⟨x.at_.toNat, by have := hok.a1; omega⟩
  have hTt : x.at_.toNat = T := by omega
  have htk : (events l k).take T = (events l p).take T := by
    have h4 := hok.a2
    rw [hev, hTt, List.take_append_of_le_length (by rw [List.length_take]; omega), List.take_take, Nat.min_self]
  have hT6 : T ≤ 65536 := by have h4 := hok.a2; omega
  rw [hT] at c2
  rw [hp] at c0
  obtain ⟨EA, hEA⟩ : ∃ E, E = events l k := ⟨_, rfl⟩
  obtain ⟨EP, hEP⟩ : ∃ E, E = events l p := ⟨_, rfl⟩
  have HFA : Hid (∀ w1, Below w0.heap.size w0 w1 → Calls Try.prog 26 #[.slice (some ⟨bb, off, none⟩) l.length cap, .int .i64 k] w1 fun e w' => ∃ v', e = .returned v' ∧ IsInts w' v' EA ∧ Below w1.heap.size w1 w') := fun w1 h1 => by
    have h := forkEventsZ l _ k w1 (HL0.out.below h1) HG.out
    rwa [eventsZ_nat, ← hEA] at h
  have HFP : Hid (∀ w1, Below w0.heap.size w0 w1 → Calls Try.prog 26 #[.slice (some ⟨bb, off, none⟩) l.length cap, .int .i64 p] w1 fun e w' => ∃ v', e = .returned v' ∧ IsInts w' v' EP ∧ Below w1.heap.size w1 w') := fun w1 h1 => by
    have h := forkEventsZ l _ p w1 (HL0.out.below h1) HG.out
    rwa [eventsZ_nat, ← hEP] at h
  rw [← hEA] at hra hea htk
  rw [← hEP] at hrp hep htk
  have HLA : Hid (∀ w1 v1, IsInts w1 v1 EA → Calls Try.prog 36 #[v1] w1 fun e w' => ∃ v', e = .returned v' ∧ IsVss w' v' (vsF EA) ∧ Below w1.heap.size w1 w') := fun w1 v1 h1 =>
    versions_any EA v1 w1 h1 hra hea
  have HLP : Hid (∀ w1 v1, IsInts w1 v1 EP → Calls Try.prog 36 #[v1] w1 fun e w' => ∃ v', e = .returned v' ∧ IsVss w' v' (vsF EP) ∧ Below w1.heap.size w1 w') := fun w1 v1 h1 =>
    versions_any EP v1 w1 h1 hrp hep
  have hTw : IntKind.i64.wrap ((T : Int) - 1) = (T : Int) - 1 := by rw [IntKind.wrap_i64]; omega
  obtain ⟨M, hM⟩ : ∃ M, min op ((T : Int) - 1) = M := ⟨_, rfl⟩
  have hMT : M < T := by omega
  have HKA := Lib.hid (known_alike htk hMT)
  have hla : (vsF EA).length ≤ 65536 := by rw [vsF_len]; exact hea
  have hlp : (vsF EP).length ≤ 65536 := by rw [vsF_len]; exact hep
  have HCK : Hid (∀ w1 v1, IsVss w1 v1 (vsF EA) → Calls Try.prog 37 #[v1] w1 fun e w' => e = .returned (.int .i64 0) ∧ Below w1.heap.size w1 w') := fun w1 v1 h1 => check_facts (vsF EA) v1 w1 h1 (vsF_vsOk EA) hla
  have HAA : Hid (∀ w1 v1, IsVss w1 v1 (vsF EA) → Calls Try.prog 39 #[v1, .int .i64 M] w1 fun e w' => ∃ v', e = .returned v' ∧ ∃ fs, IsFcs w' v' fs ∧ AtSpec (knownD M (vsF EA)) fs ∧ Below w1.heap.size w1 w') := fun w1 v1 h1 => at_any (vsF EA) v1 M w1 h1 (vsF_ent EA) hla
  have HAP : Hid (∀ w1 v1, IsVss w1 v1 (vsF EP) → Calls Try.prog 39 #[v1, .int .i64 M] w1 fun e w' => ∃ v', e = .returned v' ∧ ∃ fs, IsFcs w' v' fs ∧ AtSpec (knownD M (vsF EA)) fs ∧ Below w1.heap.size w1 w') := fun w1 v1 h1 => by
    have h := at_any (vsF EP) v1 M w1 h1 (vsF_ent EP) hlp
    rwa [← HKA.out] at h
  have HM := Lib.hid hM
  obtain ⟨VA, hVA⟩ : ∃ V, vsF EA = V := ⟨_, rfl⟩
  obtain ⟨VP, hVP⟩ : ∃ V, vsF EP = V := ⟨_, rfl⟩
  rw [hVA] at HLA HCK HAA HAP
  rw [hVP] at HLP HAP
  clear hEA hEP hra hrp hea hep hown hg hxk hT hTt hp hev htk hok hmo hla hlp HKA hM hVA hVP
  go_wp2_with fail
  refine (HFA.out w0 (Below.refl _ _)).mono ?_
  rintro e w1 ⟨v1, rfl, hi1, hb1⟩
  have H1 := Lib.hid (HLA.out w1 v1 hi1)
  have HB1 := Lib.hid hb1
  clear hi1 hb1 HFA HLA
  go_wp2_with fail
  refine H1.out.mono ?_
  rintro e w2 ⟨v2, rfl, hh2, hb2⟩
  have hb02 : Below w0.heap.size w0 w2 := Below.to HB1.out hb2 HB1.out.size
  have c0' := (hb02.cell hblt).trans c0
  have HH2 := Lib.hid hh2
  have HB2 := Lib.hid hb02
  have H2 := Lib.hid (HFP.out w2 hb02)
  have hbl2 : bb < w2.heap.size := Nat.lt_of_lt_of_le hblt hb02.size
  have c2' := (hb02.cell hblt).trans c2
  clear hh2 hb2 hb02 H1 HFP HB1 c0 c2
  go_wp2_with fail
  refine H2.out.mono ?_
  rintro e w3 ⟨v3, rfl, hi3, hb3⟩
  have hb03 : Below w0.heap.size w0 w3 := Below.to HB2.out hb3 HB2.out.size
  have H3 := Lib.hid (HLP.out w3 v3 hi3)
  have HH3 := Lib.hid (HH2.out.below hb3)
  have HB3 := Lib.hid hb03
  have c23 := (hb3.cell hbl2).trans c2'
  have hbl3 : bb < w3.heap.size := Nat.lt_of_lt_of_le hbl2 hb3.size
  clear hi3 hb3 hb03 H2 HLP HH2 HB2 c0' c2'
  go_wp2_with fail
  refine H3.out.mono ?_
  rintro e w4 ⟨v4, rfl, hh4, hb4⟩
  have c24 := (hb4.cell hbl3).trans c23
  have HA4 := Lib.hid (HH3.out.below hb4)
  have hb04 : Below w0.heap.size w0 w4 := Below.to HB3.out hb4 HB3.out.size
  have HB4 := Lib.hid (Below.to HB0.out hb04 HB0.out.size)
  have HP4 := Lib.hid hh4
  have H4 := Lib.hid (HCK.out w4 v2 HA4.out)
  clear hh4 hb4 hb04 H3 HH3 HB3 c23 HCK
  go_wp2_with fail
  rw [HM.out]
  refine H4.out.mono ?_
  rintro e w5 ⟨rfl, hb5⟩
  have HP5 := Lib.hid (HP4.out.below hb5)
  have H5 := Lib.hid (HAA.out w5 v2 (HA4.out.below hb5))
  have HB5 := Lib.hid (Below.to HB4.out hb5 HB4.out.size)
  clear hb5 H4 HA4 HP4 HB4 HAA
  go_wp2_with fail
  refine H5.out.mono ?_
  rintro e w6 ⟨v6, rfl, fs, hf6, hsp6, hb6⟩
  have H6 := Lib.hid (HAP.out w6 v4 (HP5.out.below hb6))
  have HF6 := Lib.hid hf6
  have HS6 := Lib.hid hsp6
  have HB6 := Lib.hid (Below.to HB5.out hb6 HB5.out.size)
  clear hf6 hsp6 hb6 H5 HP5 HB5 HAP
  go_wp2_with fail
  refine H6.out.mono ?_
  rintro e w7 ⟨v7, rfl, fs2, hf7, hsp7, hb7⟩
  obtain rfl := HS6.out.eq hsp7
  have H7 := Lib.hid (sameFacts_any fs v6 v7 w7 (HF6.out.below hb7) hf7)
  have HB7 := Lib.hid (Below.to HB6.out hb7 HB6.out.size)
  clear hf7 hsp7 hb7 H6 HF6 HS6 HB6
  go_wp2_with fail
  refine H7.out.mono ?_
  rintro e w8 ⟨rfl, hb8⟩
  have HB8 := Lib.hid (Below.to HB7.out hb8 HB7.out.size)
  clear hb8 H7 HB7
  go_wp2_with fail
  refine (lives_any _).mono ?_
  rintro e w99 ⟨rfl, hb99⟩
  have HB9 := Lib.hid (Below.to HB8.out hb99 HB8.out.size)
  clear hb99 HB8
  go_wp2_with fail
  go_ret
  exact ⟨rfl, HB9.out⟩

end Go.Proofs.Ytgfnelpfoegdaaa
