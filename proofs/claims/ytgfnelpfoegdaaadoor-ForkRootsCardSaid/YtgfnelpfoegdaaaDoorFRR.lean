/-
  The law ForkRoots: its walk. (Printed by wip/tools/gen_frr.py.)
-/
import Derived.Test.YtgfnelpfoegdaaaDoorLvA
import Derived.Test.YtgfnelpfoegdaaaDoorFWm
namespace Go.Proofs.YtgfnelpfoegdaaaDoor
open Go.RowKit

theorem mkExtendsC (KS : List Int) (hk : KS.length = 64) (m : Nat) (hs : List (List Int)) (v : Value) (w : World) (hv : IsHs w v (growthF KS m hs)) (hg : w.rangeAt 0 0 (KS.map (Value.int .u32)))
    (h32 : All32 hs) (hl : hs.length ≤ 65536) (hm : m ≤ hs.length) :
    Calls Tryd.prog 11 #[.agg ((mrootF KS (hs.take m)).map (Value.int .u8)).toArray, .int .i64 m, .agg ((mrootF KS hs).map (Value.int .u8)).toArray, .int .i64 hs.length, v] w fun e w' => e = .returned (.bool true) ∧ Below w.heap.size w w' := by
  unfold growthF at hv
  by_cases h0 : m = 0
  · rw [if_pos h0] at hv
    subst h0
    exact mkExtends0 KS _ _ hk hs v w hv hg h32 hl rfl rfl
  · rw [if_neg h0] at hv
    exact mkExtends1 KS _ _ hk m hs v w hv hg h32 hl (by omega) hm rfl rfl

/-- What two branches share. -/
structure Two (KS : List Int) (A P : List (List Int)) (T : Nat) : Prop where
  a : T ≤ A.length
  p : T ≤ P.length
  al : A.length ≤ 65536
  pl : P.length ≤ 65536
  eq : A.take T = P.take T
  a32 : All32 A
  p32 : All32 P

theorem two_of {KS : List Int} {l : List Br} {k p : Nat} {x : Br} (hg : Good l) (hx : l[k]? = some x) (hp : x.parent = p) : Two KS ((events l k).map (leafE KS)) ((events l p).map (leafE KS)) x.at_.toNat := by
  have hok := hg.ok hx
  have hm := eventsZ_most (hg.str k) hx
  have h1 := eventsZ_le' hg k
  have h2 := eventsZ_le' hg p
  rw [hp, eventsZ_nat] at hm
  rw [eventsZ_nat] at h1 h2
  have h3 := hok.a1
  have h4 := hok.a2
  have hev := events_some hx hok.p2
  rw [hp, eventsZ_nat] at hev
  have h5 : (events l k).take x.at_.toNat = (events l p).take x.at_.toNat := by
    rw [hev, List.take_append_of_le_length (by rw [List.length_take]; omega), List.take_take, Nat.min_self]
  refine ⟨?_, by rw [List.length_map]; omega, by rw [List.length_map]; exact h1, by rw [List.length_map]; exact h2, by rw [← List.map_take, ← List.map_take, h5], leaves32 _ _, leaves32 _ _⟩
  rw [List.length_map, hev, List.length_append, List.length_take]
  omega

set_option maxHeartbeats 2000000 in
set_option maxRecDepth 100000 in
theorem forkRoots_any (KS : List Int) (hk : KS.length = 64) (xs : List Int) (v : Value) (which : Int) (w : World) (hx : IsInts w v xs) (hw : ∀ x ∈ xs, I64 x) (hi : I64 which) (hg : w.rangeAt 0 0 (KS.map (Value.int .u32))) :
    Calls Tryd.prog 3 #[v, .int .i64 which] w fun e w' => e = .returned (.bool true) ∧ Below w.heap.size w w' := by
  have HBR := Lib.hid (branches_own xs v w hx hw)
  have hW0 : 0 < w.heap.size := by have h9 := hg 0 (.int .u32 KS[0]) (by simp [hk]); exact World.block_lt_of_cell? w _ h9
  have HKS : Hid (∀ w', Below w.heap.size w w' → w'.rangeAt 0 0 (KS.map (Value.int .u32))) := fun w' hb => range_below hg hb hW0
  clear hx hw hg
  go_enter Tryd.func3, Tryd.ntmps3
  go_wp2_with fail
  refine HBR.out.mono ?_
  rintro e w0 ⟨v0, rfl, l, hl0, ⟨hg, hown⟩, hb0⟩
  have hl256 := hg.1.1
  obtain ⟨k, hkk, hkl⟩ := around_nat' (n := which) (m := l.length) hg.2
  have HAR := Lib.hid (around_any which l.length hi (by have := hg.2; omega) w0)
  rw [hkk] at HAR
  obtain ⟨x, hxk⟩ : ∃ x, l[k]? = some x := ⟨_, List.getElem?_eq_getElem hkl⟩
  obtain ⟨bb, off, cap, u, rfl, -, hblt, c0, -, c2, -, -⟩ := hl0.at' hxk
  have HG := Lib.hid hg.1
  have HL0 := Lib.hid hl0
  have HB0 := Lib.hid hb0
  have hs0 := hb0.size
  clear hl0 hb0 hkk hi HBR
  go_wp2_with fail
  refine HAR.out.mono ?_
  rintro e w' ⟨rfl, rfl⟩
  clear HAR
  by_cases hp0 : x.parent < 0
  · go_wp2_with fail
    refine (lives_any _).mono ?_
    rintro e w99 ⟨rfl, hb99⟩
    go_wp2_with fail
    go_ret
    exact ⟨rfl, Below.to HB0.out hb99 HB0.out.size⟩
  obtain ⟨p, hp⟩ := Int.eq_ofNat_of_zero_le (by omega : 0 ≤ x.parent)
  have htwo := two_of (KS := KS) HG.out hxk hp
  have hra := events_own hown k
  have hrp := events_own hown p
  have hea := eventsZ_le' HG.out k
  have hep := eventsZ_le' HG.out p
  rw [eventsZ_nat] at hea hep
  obtain ⟨T, hT⟩ : ∃ T : Nat, x.at_ = (T : Int) := ⟨x.at_.toNat, by have := (HG.out.ok hxk).a1; omega⟩
  have hTt : x.at_.toNat = T := by omega
  rw [hTt] at htwo
  rw [hT] at c2
  rw [hp] at c0
  obtain ⟨EA, hEA⟩ : ∃ E, E = events l k := ⟨_, rfl⟩
  obtain ⟨EP, hEP⟩ : ∃ E, E = events l p := ⟨_, rfl⟩
  have HFA : Hid (∀ w1, Below w0.heap.size w0 w1 → Calls Tryd.prog 8 #[.slice (some ⟨bb, off, none⟩) l.length cap, .int .i64 k] w1 fun e w' => ∃ v', e = .returned v' ∧ IsInts w' v' EA ∧ Below w1.heap.size w1 w') := fun w1 h1 => by
    have h := forkEventsZ l _ k w1 (HL0.out.below h1) HG.out
    rwa [eventsZ_nat, ← hEA] at h
  have HFP : Hid (∀ w1, Below w0.heap.size w0 w1 → Calls Tryd.prog 8 #[.slice (some ⟨bb, off, none⟩) l.length cap, .int .i64 p] w1 fun e w' => ∃ v', e = .returned v' ∧ IsInts w' v' EP ∧ Below w1.heap.size w1 w') := fun w1 h1 => by
    have h := forkEventsZ l _ p w1 (HL0.out.below h1) HG.out
    rwa [eventsZ_nat, ← hEP] at h
  rw [← hEA] at hra hea htwo
  rw [← hEP] at hrp hep htwo
  have HLA : Hid (∀ w1 v1, IsInts w1 v1 EA → Below w.heap.size w w1 → Calls Tryd.prog 7 #[v1] w1 fun e w' => ∃ v', e = .returned v' ∧ IsHs w' v' (EA.map (leafE KS)) ∧ Below w1.heap.size w1 w') := fun w1 v1 h1 h2 =>
    leaves_any KS hk EA v1 w1 h1 hra (HKS.out w1 h2) hea
  have HLP : Hid (∀ w1 v1, IsInts w1 v1 EP → Below w.heap.size w w1 → Calls Tryd.prog 7 #[v1] w1 fun e w' => ∃ v', e = .returned v' ∧ IsHs w' v' (EP.map (leafE KS)) ∧ Below w1.heap.size w1 w') := fun w1 v1 h1 h2 =>
    leaves_any KS hk EP v1 w1 h1 hrp (HKS.out w1 h2) hep
  obtain ⟨AH, hAH⟩ : ∃ E, EA.map (leafE KS) = E := ⟨_, rfl⟩
  obtain ⟨PH, hPH⟩ : ∃ E, EP.map (leafE KS) = E := ⟨_, rfl⟩
  rw [hAH] at HLA htwo
  rw [hPH] at HLP htwo
  have HTW := Lib.hid htwo
  clear hAH hPH hEA hEP hra hrp hea hep htwo hown hg hxk hT hTt hp
  go_wp2_with fail
  refine (HFA.out w0 (Below.refl _ _)).mono ?_
  rintro e w1 ⟨v1, rfl, hi1, hb1⟩
  have hbw1 : Below w.heap.size w w1 := Below.to HB0.out hb1 HB0.out.size
  have H1 := Lib.hid (HLA.out w1 v1 hi1 hbw1)
  have HB1 := Lib.hid hb1
  have HBW1 := Lib.hid hbw1
  clear hi1 hb1 hbw1 HFA HLA
  go_wp2_with fail
  refine H1.out.mono ?_
  rintro e w2 ⟨v2, rfl, hh2, hb2⟩
  have hb02 : Below w0.heap.size w0 w2 := Below.to HB1.out hb2 HB1.out.size
  have hbw2 : Below w.heap.size w w2 := Below.to HB0.out hb02 HB0.out.size
  have c0' := (hb02.cell hblt).trans c0
  have HH2 := Lib.hid hh2
  have HB2 := Lib.hid hb02
  have H2 := Lib.hid (HFP.out w2 hb02)
  have hbl2 : bb < w2.heap.size := Nat.lt_of_lt_of_le hblt hb02.size
  have c2' := (hb02.cell hblt).trans c2
  clear hh2 hb2 hb02 hbw2 H1 HFP HB1 HBW1 c0 c2
  go_wp2_with fail
  refine H2.out.mono ?_
  rintro e w3 ⟨v3, rfl, hi3, hb3⟩
  have hb03 : Below w0.heap.size w0 w3 := Below.to HB2.out hb3 HB2.out.size
  have hbw3 : Below w.heap.size w w3 := Below.to HB0.out hb03 HB0.out.size
  have H3 := Lib.hid (HLP.out w3 v3 hi3 hbw3)
  have HH3 := Lib.hid (HH2.out.below hb3)
  have HB3 := Lib.hid hb03
  have c23 := (hb3.cell hbl2).trans c2'
  have hbl3 : bb < w3.heap.size := Nat.lt_of_lt_of_le hbl2 hb3.size
  clear hi3 hb3 hb03 hbw3 H2 HLP HH2 HB2 c0' c2'
  go_wp2_with fail
  refine H3.out.mono ?_
  rintro e w4 ⟨v4, rfl, hh4, hb4⟩
  have c24 := (hb4.cell hbl3).trans c23
  have HA4 := Lib.hid (HH3.out.below hb4)
  have hb04 : Below w0.heap.size w0 w4 := Below.to HB3.out hb4 HB3.out.size
  have HB4 := Lib.hid (Below.to HB0.out hb04 HB0.out.size)
  have HP4 := Lib.hid hh4
  obtain ⟨aa, capA, rfl, hcapA, -⟩ := HA4.out.open
  obtain ⟨ap, capP, rfl, hcapP, -⟩ := hh4.open
  obtain ⟨AL, hAL⟩ : ∃ L, AH.length = L := ⟨_, rfl⟩
  obtain ⟨PL, hPL⟩ : ∃ L, PH.length = L := ⟨_, rfl⟩
  have hTA : T ≤ AL := hAL ▸ HTW.out.a
  have hTP : T ≤ PL := hPL ▸ HTW.out.p
  have hAl : AL ≤ 65536 := hAL ▸ HTW.out.al
  have hPl : PL ≤ 65536 := hPL ▸ HTW.out.pl
  rw [hAL] at HA4 hcapA
  rw [hPL] at HP4 hcapP
  have n1 : ¬ ((T : Int) > (AL : Int)) := by omega
  have n2 : ¬ ((T : Int) > (PL : Int)) := by omega
  have hTcA : T ≤ capA := by omega
  have hTcP : T ≤ capP := by omega
  obtain ⟨RT, hRT⟩ : ∃ R, R = mrootF KS (AH.take T) := ⟨_, rfl⟩
  have hRP : RT = mrootF KS (PH.take T) := by rw [hRT, HTW.out.eq]
  have hRl : RT.length = 32 := by rw [hRT]; exact mrootF_len (HTW.out.a32.take _)
  have HRA : Hid (∀ w1, Below w4.heap.size w4 w1 → Calls Tryd.prog 9 #[.slice aa T capA] w1 fun e w' => e = .returned (.agg (RT.map (Value.int .u8)).toArray) ∧ Below w1.heap.size w1 w') := fun w1 h1 => by
    rw [hRT]
    exact mkRootC KS hk _ (AH.take T) _ w1 (Nat.le_refl _) ((HA4.out.take (by omega)).below h1) (HKS.out _ (Below.to HB4.out h1 HB4.out.size)) (by rw [List.length_take]; omega)
  have HRP : Hid (∀ w1, Below w4.heap.size w4 w1 → Calls Tryd.prog 9 #[.slice ap T capP] w1 fun e w' => e = .returned (.agg (RT.map (Value.int .u8)).toArray) ∧ Below w1.heap.size w1 w') := fun w1 h1 => by
    rw [hRP]
    exact mkRootC KS hk _ (PH.take T) _ w1 (Nat.le_refl _) ((HP4.out.take (by omega)).below h1) (HKS.out _ (Below.to HB4.out h1 HB4.out.size)) (by rw [List.length_take]; omega)
  have HGA : Hid (∀ w1, Below w4.heap.size w4 w1 → Calls Tryd.prog 10 #[.slice aa AL capA, .int .i64 T] w1 fun e w' => ∃ v', e = .returned (.tuple #[v', .int .i64 0]) ∧ IsHs w' v' (growthF KS T AH) ∧ Below w1.heap.size w1 w') := fun w1 h1 =>
    mkGrowth KS hk T AH _ w1 (HA4.out.below h1) (HKS.out _ (Below.to HB4.out h1 HB4.out.size)) (by omega) (by omega)
  have HGP : Hid (∀ w1, Below w4.heap.size w4 w1 → Calls Tryd.prog 10 #[.slice ap PL capP, .int .i64 T] w1 fun e w' => ∃ v', e = .returned (.tuple #[v', .int .i64 0]) ∧ IsHs w' v' (growthF KS T PH) ∧ Below w1.heap.size w1 w') := fun w1 h1 =>
    mkGrowth KS hk T PH _ w1 (HP4.out.below h1) (HKS.out _ (Below.to HB4.out h1 HB4.out.size)) (by omega) (by omega)
  obtain ⟨SA, hSA⟩ : ∃ R, R = mrootF KS AH := ⟨_, rfl⟩
  obtain ⟨SP, hSP⟩ : ∃ R, R = mrootF KS PH := ⟨_, rfl⟩
  have HWA : Hid (∀ w1, Below w4.heap.size w4 w1 → Calls Tryd.prog 9 #[.slice aa AL capA] w1 fun e w' => e = .returned (.agg (SA.map (Value.int .u8)).toArray) ∧ Below w1.heap.size w1 w') := fun w1 h1 => by
    rw [hSA]
    exact mkRootC KS hk _ AH _ w1 (Nat.le_refl _) (HA4.out.below h1) (HKS.out _ (Below.to HB4.out h1 HB4.out.size)) (by omega)
  have HWP : Hid (∀ w1, Below w4.heap.size w4 w1 → Calls Tryd.prog 9 #[.slice ap PL capP] w1 fun e w' => e = .returned (.agg (SP.map (Value.int .u8)).toArray) ∧ Below w1.heap.size w1 w') := fun w1 h1 => by
    rw [hSP]
    exact mkRootC KS hk _ PH _ w1 (Nat.le_refl _) (HP4.out.below h1) (HKS.out _ (Below.to HB4.out h1 HB4.out.size)) (by omega)
  have HEA : Hid (∀ w1 v1, Below w4.heap.size w4 w1 → IsHs w1 v1 (growthF KS T AH) → Calls Tryd.prog 11 #[.agg (RT.map (Value.int .u8)).toArray, .int .i64 T, .agg (SA.map (Value.int .u8)).toArray, .int .i64 AL, v1] w1 fun e w' => e = .returned (.bool true) ∧ Below w1.heap.size w1 w') := fun w1 v1 h1 hv => by
    rw [hRT, hSA, ← hAL]
    exact mkExtendsC KS hk T AH v1 w1 hv (HKS.out _ (Below.to HB4.out h1 HB4.out.size)) HTW.out.a32 (by omega) (by omega)
  have HEP : Hid (∀ w1 v1, Below w4.heap.size w4 w1 → IsHs w1 v1 (growthF KS T PH) → Calls Tryd.prog 11 #[.agg (RT.map (Value.int .u8)).toArray, .int .i64 T, .agg (SP.map (Value.int .u8)).toArray, .int .i64 PL, v1] w1 fun e w' => e = .returned (.bool true) ∧ Below w1.heap.size w1 w') := fun w1 v1 h1 hv => by
    rw [hRP, hSP, ← hPL]
    exact mkExtendsC KS hk T PH v1 w1 hv (HKS.out _ (Below.to HB4.out h1 HB4.out.size)) HTW.out.p32 (by omega) (by omega)
  obtain ⟨XA, hXA⟩ : ∃ X, growthF KS T AH = X := ⟨_, rfl⟩
  obtain ⟨XP, hXP⟩ : ∃ X, growthF KS T PH = X := ⟨_, rfl⟩
  rw [hXA] at HGA HEA
  rw [hXP] at HGP HEP
  rw [hAL, hPL]
  clear hRT hRP hSA hSP hAL hPL hh4 hb4 hb04 hXA hXP H3 HH3 HB3 c23 HTW HA4 HP4
  go_wp2_with fail
  refine (HRA.out w4 (Below.refl _ _)).mono ?_
  rintro e w5 ⟨rfl, hb5⟩
  obtain ⟨R, hR⟩ : ∃ R, R = w5.heap.size := ⟨_, rfl⟩
  obtain ⟨V6, hV6⟩ : ∃ V, V = (w5.alloc (.cells #[.int .u8 0, .int .u8 0, .int .u8 0, .int .u8 0, .int .u8 0, .int .u8 0, .int .u8 0, .int .u8 0, .int .u8 0, .int .u8 0, .int .u8 0, .int .u8 0, .int .u8 0, .int .u8 0, .int .u8 0, .int .u8 0, .int .u8 0, .int .u8 0, .int .u8 0, .int .u8 0, .int .u8 0, .int .u8 0, .int .u8 0, .int .u8 0, .int .u8 0, .int .u8 0, .int .u8 0, .int .u8 0, .int .u8 0, .int .u8 0, .int .u8 0, .int .u8 0] 33)).setRow R (RT.map (Value.int .u8)).toArray := ⟨_, rfl⟩
  have hy0 : NRow (w5.alloc (.cells #[.int .u8 0, .int .u8 0, .int .u8 0, .int .u8 0, .int .u8 0, .int .u8 0, .int .u8 0, .int .u8 0, .int .u8 0, .int .u8 0, .int .u8 0, .int .u8 0, .int .u8 0, .int .u8 0, .int .u8 0, .int .u8 0, .int .u8 0, .int .u8 0, .int .u8 0, .int .u8 0, .int .u8 0, .int .u8 0, .int .u8 0, .int .u8 0, .int .u8 0, .int .u8 0, .int .u8 0, .int .u8 0, .int .u8 0, .int .u8 0, .int .u8 0, .int .u8 0] 33)) .u8 R 33 (List.replicate 32 0) := by rw [hR]; exact NRow.new w5 .u8 33 (List.replicate 32 0)
  have hy6 : NRow V6 .u8 R 33 RT := by rw [hV6]; exact hy0.store
  have hb56 : Below w5.heap.size w5 V6 := by rw [hV6, hR]; exact below_setRow ((Below.refl _ _).alloc (Nat.le_refl _) _) _ _ (Nat.le_refl _)
  have hb46 : Below w4.heap.size w4 V6 := Below.to hb5 hb56 hb5.size
  have hiR : (Tryd.prog.info? 33).map (·.size) = some (RT.map (Value.int .u8)).length := by rw [info32]; simp [hRl]
  have HR := Lib.hid hR
  have HV6 := Lib.hid hV6
  have HY0 := Lib.hid hy0
  have HY6 := Lib.hid hy6
  have HB6 := Lib.hid hb46
  have hen := fun W => neq_same RT hRl W
  clear hR hV6 hy0 hy6 hb56 hb46 hb5 HRA
  go_wp2_with (rw [← HR.out]; refine wpList_store_row rfl 33 _ _ rfl R (RT.map (Value.int .u8)).toArray rfl rfl 33 _ HY0.out (by rw [info32]; simp [hRl]) (by simp [hRl]) (u8_all _) ?_; rw [← HV6.out])
  refine (HGA.out V6 HB6.out).mono ?_
  rintro e w7 ⟨v7, rfl, hx7, hb7⟩
  have HY7 := Lib.hid (HY6.out.below hb7 HY6.out.lt)
  have HB7 := Lib.hid (Below.to HB6.out hb7 HB6.out.size)
  have HX7 := Lib.hid hx7
  clear hb7 hx7 HGA HY0 HY6 HB6 HV6
  go_wp2_with fail
  refine (HGP.out w7 HB7.out).mono ?_
  rintro e w8 ⟨v8, rfl, hx8, hb8⟩
  have HY8 := Lib.hid (HY7.out.below hb8 HY7.out.lt)
  have HB8 := Lib.hid (Below.to HB7.out hb8 HB7.out.size)
  have HX8 := Lib.hid (HX7.out.below hb8)
  have HZ8 := Lib.hid hx8
  clear hb8 hx8 HGP HY7 HX7 HB7
  go_wp2_with fail
  refine wp_region_held_drew (S := fun w' => w'.rangeAt R 0 (RT.map (Value.int .u8))) (by kernel_rfl) HY8.out.drew.range (fun hHeld => ?_)
  refine wpAnyH_take (i := 0) (v := .int .i64 0) rfl (by kernel_rfl) (by kernel_rfl) (by kernel_rfl) (fun _ _ _ h => h) (Or.inl ⟨by kernel_rfl, ?ya0⟩) (by assumption) ?_
  case ya0 => (intro w hSw; (try dsimp only at hSw); first | (go_simp; done) | (go_simp; with_reducible rfl))
  try simp only [Act.put, List.setIfInBounds_toArray, List.set_cons_zero, List.set_cons_succ, List.getElem_toArray, List.getElem_cons_succ, List.getElem_cons_zero]
  refine wpAnyH_take (i := 1) (v := .bool false) rfl (by kernel_rfl) (by kernel_rfl) (by kernel_rfl) (fun _ _ _ h => h) (Or.inl ⟨by kernel_rfl, ?ya1⟩) (by assumption) ?_
  case ya1 => (intro w hSw; (try dsimp only at hSw); first | (go_simp; done) | (go_simp; with_reducible rfl))
  try simp only [Act.put, List.setIfInBounds_toArray, List.set_cons_zero, List.set_cons_succ, List.getElem_toArray, List.getElem_cons_succ, List.getElem_cons_zero]
  refine wpAnyH_take (i := 2) (v := .bool false) rfl (by kernel_rfl) (by kernel_rfl) (by kernel_rfl) (fun _ _ _ h => h) (Or.inl ⟨by kernel_rfl, ?ya2⟩) (by assumption) ?_
  case ya2 => (intro w hSw; (try dsimp only at hSw); first | (go_simp; done) | (go_simp; with_reducible rfl))
  try simp only [Act.put, List.setIfInBounds_toArray, List.set_cons_zero, List.set_cons_succ, List.getElem_toArray, List.getElem_cons_succ, List.getElem_cons_zero]
  refine wpAnyH_take (i := 3) (v := .int .i64 0) rfl (by kernel_rfl) (by kernel_rfl) (by kernel_rfl) (fun _ _ _ h => h) (Or.inl ⟨by kernel_rfl, ?ya3⟩) (by assumption) ?_
  case ya3 => (intro w hSw; (try dsimp only at hSw); first | (go_simp; done) | (go_simp; with_reducible rfl))
  try simp only [Act.put, List.setIfInBounds_toArray, List.set_cons_zero, List.set_cons_succ, List.getElem_toArray, List.getElem_cons_succ, List.getElem_cons_zero]
  refine wpAnyH_take (i := 4) (v := .bool false) rfl (by kernel_rfl) (by kernel_rfl) (by kernel_rfl) (fun _ _ _ h => h) (Or.inl ⟨by kernel_rfl, ?ya4⟩) (by assumption) ?_
  case ya4 => (intro w hSw; (try dsimp only at hSw); first | (go_simp; done) | (go_simp; with_reducible rfl))
  try simp only [Act.put, List.setIfInBounds_toArray, List.set_cons_zero, List.set_cons_succ, List.getElem_toArray, List.getElem_cons_succ, List.getElem_cons_zero]
  refine wpAnyH_take (i := 5) (v := .bool false) rfl (by kernel_rfl) (by kernel_rfl) (by kernel_rfl) (fun _ _ _ h => h) (Or.inl ⟨by kernel_rfl, ?ya5⟩) (by assumption) ?_
  case ya5 => (intro w hSw; (try dsimp only at hSw); first | (go_simp; done) | (go_simp; with_reducible rfl))
  try simp only [Act.put, List.setIfInBounds_toArray, List.set_cons_zero, List.set_cons_succ, List.getElem_toArray, List.getElem_cons_succ, List.getElem_cons_zero]
  refine wpAnyH_take (i := 6) (v := .bool false) rfl (by kernel_rfl) (by kernel_rfl) (by kernel_rfl) (fun _ _ _ h => h) (Or.inl ⟨by kernel_rfl, ?ya6⟩) (by assumption) ?_
  case ya6 => (intro w hSw; (try dsimp only at hSw); first | (go_simp; done) | (go_simp; with_reducible rfl))
  try simp only [Act.put, List.setIfInBounds_toArray, List.set_cons_zero, List.set_cons_succ, List.getElem_toArray, List.getElem_cons_succ, List.getElem_cons_zero]
  refine wpAnyH_take (i := 7) (v := .agg (RT.map (Value.int .u8)).toArray) rfl (by kernel_rfl) (by kernel_rfl) (by kernel_rfl) (fun _ _ _ h => h) (yieldsIf_load_mid (by kernel_rfl) _ _ rfl R 0 rfl (RT.map (Value.int .u8)) _ (fun w h => h) Tryd.underlying33 rfl hiR) (by assumption) ?_
  try simp only [Act.put, List.setIfInBounds_toArray, List.set_cons_zero, List.set_cons_succ, List.getElem_toArray, List.getElem_cons_succ, List.getElem_cons_zero]
  refine wpAnyH_take (i := 8) (v := .slice ap PL capP) rfl (by kernel_rfl) (by kernel_rfl) (by kernel_rfl) (fun _ _ _ h => h) (Or.inl ⟨by kernel_rfl, ?ya8⟩) (by assumption) ?_
  case ya8 => (intro w hSw; (try dsimp only at hSw); first | (go_simp; done) | (go_simp; with_reducible rfl))
  try simp only [Act.put, List.setIfInBounds_toArray, List.set_cons_zero, List.set_cons_succ, List.getElem_toArray, List.getElem_cons_succ, List.getElem_cons_zero]
  refine wpAnyH_take (i := 9) (v := .int .i64 T) rfl (by kernel_rfl) (by kernel_rfl) (by kernel_rfl) (fun _ _ _ h => h) (Or.inl ⟨by kernel_rfl, ?ya9⟩) (by assumption) ?_
  case ya9 => (intro w hSw; (try dsimp only at hSw); first | (go_simp; done) | (go_simp; with_reducible rfl))
  try simp only [Act.put, List.setIfInBounds_toArray, List.set_cons_zero, List.set_cons_succ, List.getElem_toArray, List.getElem_cons_succ, List.getElem_cons_zero]
  refine wpAnyH_take (i := 10) (v := .slice ap T capP) rfl (by kernel_rfl) (by kernel_rfl) (by kernel_rfl) (fun _ _ _ h => h) (Or.inl ⟨by kernel_rfl, ?ya10⟩) (by assumption) ?_
  case ya10 => (intro w hSw; (try dsimp only at hSw); first | (go_simp; done) | (go_simp; with_reducible rfl))
  try simp only [Act.put, List.setIfInBounds_toArray, List.set_cons_zero, List.set_cons_succ, List.getElem_toArray, List.getElem_cons_succ, List.getElem_cons_zero]
  refine wpAnyH_ready (rs := [11]) (by kernel_rfl) (by simp) ?_
  refine AllReadyH.cons rfl (fun K hK => ?_) AllReadyH.nil
  rw [if_pos (by rfl)]
  go_simp
  go_at_call 9
  refine (HRP.out w8.drew (HB8.out.drew)).mono ?_
  rintro e w9 ⟨rfl, hb9⟩
  have hS9 := range_below hHeld hb9 HY8.out.drew.lt
  have HY9 := Lib.hid (HY8.out.drew.below hb9 HY8.out.drew.lt)
  have HB9 := Lib.hid (Below.to HB8.out.drew hb9 HB8.out.drew.size)
  have HX9 := Lib.hid (HX8.out.below ((Below.refl _ _).drew.trans hb9))
  have HZ9 := Lib.hid (HZ8.out.below ((Below.refl _ _).drew.trans hb9))
  clear hHeld hb9
  refine hK.out _ _ hS9 (fun hHeld => ?_)
  clear hK K
  clear hS9
  refine wpAnyH_take (i := 12) (v := .bool false) rfl (by kernel_rfl) (by kernel_rfl) (by kernel_rfl) (fun _ _ _ h => h) (Or.inl ⟨by kernel_rfl, ?ya12⟩) (by assumption) ?_
  case ya12 => (intro w hSw; (try dsimp only at hSw); first | (go_simp; done) | (go_simp; with_reducible rfl))
  try simp only [Act.put, List.setIfInBounds_toArray, List.set_cons_zero, List.set_cons_succ, List.getElem_toArray, List.getElem_cons_succ, List.getElem_cons_zero]
  refine wpAnyH_take (i := 13) (v := .bool false) rfl (by kernel_rfl) (by kernel_rfl) (by kernel_rfl) (fun _ _ _ h => h) (Or.inl ⟨by kernel_rfl, ?ya13⟩) (by assumption) ?_
  case ya13 => (intro w hSw; (try dsimp only at hSw); first | (go_simp; done) | (go_simp; with_reducible rfl))
  try simp only [Act.put, List.setIfInBounds_toArray, List.set_cons_zero, List.set_cons_succ, List.getElem_toArray, List.getElem_cons_succ, List.getElem_cons_zero]
  refine wpAnyH_done (by kernel_rfl) ?_ _
  clear HY8 HB8 HX8 HZ8 HRP hHeld
  go_wp2_with fail
  refine wp_region_held_drew (S := fun w' => w'.rangeAt R 0 (RT.map (Value.int .u8))) (by kernel_rfl) HY9.out.drew.range (fun hHeld => ?_)
  refine wpAnyH_take (i := 0) (v := .agg (RT.map (Value.int .u8)).toArray) rfl (by kernel_rfl) (by kernel_rfl) (by kernel_rfl) (fun _ _ _ h => h) (yieldsIf_load_mid (by kernel_rfl) _ _ rfl R 0 rfl (RT.map (Value.int .u8)) _ (fun w h => h) Tryd.underlying33 rfl hiR) (by assumption) ?_
  try simp only [Act.put, List.setIfInBounds_toArray, List.set_cons_zero, List.set_cons_succ, List.getElem_toArray, List.getElem_cons_succ, List.getElem_cons_zero]
  refine wpAnyH_take (i := 1) (v := .int .i64 T) rfl (by kernel_rfl) (by kernel_rfl) (by kernel_rfl) (fun _ _ _ h => h) (Or.inl ⟨by kernel_rfl, ?yb1⟩) (by assumption) ?_
  case yb1 => (intro w hSw; (try dsimp only at hSw); first | (go_simp; done) | (go_simp; with_reducible rfl))
  try simp only [Act.put, List.setIfInBounds_toArray, List.set_cons_zero, List.set_cons_succ, List.getElem_toArray, List.getElem_cons_succ, List.getElem_cons_zero]
  refine wpAnyH_take (i := 2) (v := .slice aa AL capA) rfl (by kernel_rfl) (by kernel_rfl) (by kernel_rfl) (fun _ _ _ h => h) (Or.inl ⟨by kernel_rfl, ?yb2⟩) (by assumption) ?_
  case yb2 => (intro w hSw; (try dsimp only at hSw); first | (go_simp; done) | (go_simp; with_reducible rfl))
  try simp only [Act.put, List.setIfInBounds_toArray, List.set_cons_zero, List.set_cons_succ, List.getElem_toArray, List.getElem_cons_succ, List.getElem_cons_zero]
  refine wpAnyH_take (i := 4) (v := .slice aa AL capA) rfl (by kernel_rfl) (by kernel_rfl) (by kernel_rfl) (fun _ _ _ h => h) (Or.inl ⟨by kernel_rfl, ?yb4⟩) (by assumption) ?_
  case yb4 => (intro w hSw; (try dsimp only at hSw); first | (go_simp; done) | (go_simp; with_reducible rfl))
  try simp only [Act.put, List.setIfInBounds_toArray, List.set_cons_zero, List.set_cons_succ, List.getElem_toArray, List.getElem_cons_succ, List.getElem_cons_zero]
  refine wpAnyH_take (i := 5) (v := .int .i64 AL) rfl (by kernel_rfl) (by kernel_rfl) (by kernel_rfl) (fun _ _ _ h => h) (Or.inl ⟨by kernel_rfl, ?yb5⟩) (by assumption) ?_
  case yb5 => (intro w hSw; (try dsimp only at hSw); first | (go_simp; done) | (go_simp; with_reducible rfl))
  try simp only [Act.put, List.setIfInBounds_toArray, List.set_cons_zero, List.set_cons_succ, List.getElem_toArray, List.getElem_cons_succ, List.getElem_cons_zero]
  refine wpAnyH_take (i := 6) (v := v7) rfl (by kernel_rfl) (by kernel_rfl) (by kernel_rfl) (fun _ _ _ h => h) (Or.inl ⟨by kernel_rfl, ?yb6⟩) (by assumption) ?_
  case yb6 => (intro w hSw; (try dsimp only at hSw); first | (go_simp; done) | (go_simp; with_reducible rfl))
  try simp only [Act.put, List.setIfInBounds_toArray, List.set_cons_zero, List.set_cons_succ, List.getElem_toArray, List.getElem_cons_succ, List.getElem_cons_zero]
  refine wpAnyH_ready (rs := [3]) (by kernel_rfl) (by simp) ?_
  refine AllReadyH.cons rfl (fun K hK => ?_) AllReadyH.nil
  rw [if_pos (by rfl)]
  go_simp
  go_at_call 9
  refine (HWA.out w9.drew HB9.out.drew).mono ?_
  rintro e w10 ⟨rfl, hb10⟩
  have hS10 := range_below hHeld hb10 HY9.out.drew.lt
  have HY10 := Lib.hid (HY9.out.drew.below hb10 HY9.out.drew.lt)
  have HB10 := Lib.hid (Below.to HB9.out.drew hb10 HB9.out.drew.size)
  have HX10 := Lib.hid (HX9.out.below ((Below.refl _ _).drew.trans hb10))
  have HZ10 := Lib.hid (HZ9.out.below ((Below.refl _ _).drew.trans hb10))
  clear hHeld hb10
  refine hK.out _ _ hS10 (fun hHeld => ?_)
  clear hK K
  clear hS10 HY9 HB9 HX9 HZ9 HWA
  refine wpAnyH_ready (rs := [7]) (by kernel_rfl) (by simp) ?_
  refine AllReadyH.cons rfl (fun K hK => ?_) AllReadyH.nil
  rw [if_pos (by rfl)]
  go_simp
  go_at_call 11
  refine (HEA.out w10 v7 HB10.out HX10.out).mono ?_
  rintro e w11 ⟨rfl, hb11⟩
  have hS11 := range_below hHeld hb11 HY10.out.lt
  have HY11 := Lib.hid (HY10.out.below hb11 HY10.out.lt)
  have HB11 := Lib.hid (Below.to HB10.out hb11 HB10.out.size)
  have HZ11 := Lib.hid (HZ10.out.below hb11)
  clear hHeld hb11
  refine hK.out _ _ hS11 (fun hHeld => ?_)
  clear hK K
  clear hS11 HY10 HB10 HZ10
  refine wpAnyH_take (i := 8) (v := .bool true) rfl (by kernel_rfl) (by kernel_rfl) (by kernel_rfl) (fun _ _ _ h => h) (Or.inl ⟨by kernel_rfl, ?yb8⟩) (by assumption) ?_
  case yb8 => (intro w hSw; (try dsimp only at hSw); first | (go_simp; done) | (go_simp; with_reducible rfl))
  try simp only [Act.put, List.setIfInBounds_toArray, List.set_cons_zero, List.set_cons_succ, List.getElem_toArray, List.getElem_cons_succ, List.getElem_cons_zero]
  refine wpAnyH_take (i := 9) (v := .agg (RT.map (Value.int .u8)).toArray) rfl (by kernel_rfl) (by kernel_rfl) (by kernel_rfl) (fun _ _ _ h => h) (yieldsIf_load_mid (by kernel_rfl) _ _ rfl R 0 rfl (RT.map (Value.int .u8)) _ (fun w h => h) Tryd.underlying33 rfl hiR) (by assumption) ?_
  try simp only [Act.put, List.setIfInBounds_toArray, List.set_cons_zero, List.set_cons_succ, List.getElem_toArray, List.getElem_cons_succ, List.getElem_cons_zero]
  refine wpAnyH_take (i := 10) (v := .int .i64 T) rfl (by kernel_rfl) (by kernel_rfl) (by kernel_rfl) (fun _ _ _ h => h) (Or.inl ⟨by kernel_rfl, ?yb10⟩) (by assumption) ?_
  case yb10 => (intro w hSw; (try dsimp only at hSw); first | (go_simp; done) | (go_simp; with_reducible rfl))
  try simp only [Act.put, List.setIfInBounds_toArray, List.set_cons_zero, List.set_cons_succ, List.getElem_toArray, List.getElem_cons_succ, List.getElem_cons_zero]
  refine wpAnyH_take (i := 11) (v := .slice ap PL capP) rfl (by kernel_rfl) (by kernel_rfl) (by kernel_rfl) (fun _ _ _ h => h) (Or.inl ⟨by kernel_rfl, ?yb11⟩) (by assumption) ?_
  case yb11 => (intro w hSw; (try dsimp only at hSw); first | (go_simp; done) | (go_simp; with_reducible rfl))
  try simp only [Act.put, List.setIfInBounds_toArray, List.set_cons_zero, List.set_cons_succ, List.getElem_toArray, List.getElem_cons_succ, List.getElem_cons_zero]
  refine wpAnyH_take (i := 13) (v := .slice ap PL capP) rfl (by kernel_rfl) (by kernel_rfl) (by kernel_rfl) (fun _ _ _ h => h) (Or.inl ⟨by kernel_rfl, ?yb13⟩) (by assumption) ?_
  case yb13 => (intro w hSw; (try dsimp only at hSw); first | (go_simp; done) | (go_simp; with_reducible rfl))
  try simp only [Act.put, List.setIfInBounds_toArray, List.set_cons_zero, List.set_cons_succ, List.getElem_toArray, List.getElem_cons_succ, List.getElem_cons_zero]
  refine wpAnyH_take (i := 14) (v := .int .i64 PL) rfl (by kernel_rfl) (by kernel_rfl) (by kernel_rfl) (fun _ _ _ h => h) (Or.inl ⟨by kernel_rfl, ?yb14⟩) (by assumption) ?_
  case yb14 => (intro w hSw; (try dsimp only at hSw); first | (go_simp; done) | (go_simp; with_reducible rfl))
  try simp only [Act.put, List.setIfInBounds_toArray, List.set_cons_zero, List.set_cons_succ, List.getElem_toArray, List.getElem_cons_succ, List.getElem_cons_zero]
  refine wpAnyH_take (i := 15) (v := v8) rfl (by kernel_rfl) (by kernel_rfl) (by kernel_rfl) (fun _ _ _ h => h) (Or.inl ⟨by kernel_rfl, ?yb15⟩) (by assumption) ?_
  case yb15 => (intro w hSw; (try dsimp only at hSw); first | (go_simp; done) | (go_simp; with_reducible rfl))
  try simp only [Act.put, List.setIfInBounds_toArray, List.set_cons_zero, List.set_cons_succ, List.getElem_toArray, List.getElem_cons_succ, List.getElem_cons_zero]
  refine wpAnyH_ready (rs := [12]) (by kernel_rfl) (by simp) ?_
  refine AllReadyH.cons rfl (fun K hK => ?_) AllReadyH.nil
  rw [if_pos (by rfl)]
  go_simp
  go_at_call 9
  refine (HWP.out w11 HB11.out).mono ?_
  rintro e w12 ⟨rfl, hb12⟩
  have hS12 := range_below hHeld hb12 HY11.out.lt
  have HY12 := Lib.hid (HY11.out.below hb12 HY11.out.lt)
  have HB12 := Lib.hid (Below.to HB11.out hb12 HB11.out.size)
  have HZ12 := Lib.hid (HZ11.out.below hb12)
  clear hHeld hb12
  refine hK.out _ _ hS12 (fun hHeld => ?_)
  clear hK K
  clear hS12 HY11 HB11 HZ11
  refine wpAnyH_ready (rs := [16]) (by kernel_rfl) (by simp) ?_
  refine AllReadyH.cons rfl (fun K hK => ?_) AllReadyH.nil
  rw [if_pos (by rfl)]
  go_simp
  go_at_call 11
  refine (HEP.out w12 v8 HB12.out HZ12.out).mono ?_
  rintro e w13 ⟨rfl, hb13⟩
  have hS13 := range_below hHeld hb13 HY12.out.lt
  have HY13 := Lib.hid (HY12.out.below hb13 HY12.out.lt)
  have HB13 := Lib.hid (Below.to HB12.out hb13 HB12.out.size)
  have HZ13 := Lib.hid (HZ12.out.below hb13)
  clear hHeld hb13
  refine hK.out _ _ hS13 (fun hHeld => ?_)
  clear hK K
  clear hS13 HY12 HB12 HZ12
  refine wpAnyH_take (i := 17) (v := .bool true) rfl (by kernel_rfl) (by kernel_rfl) (by kernel_rfl) (fun _ _ _ h => h) (Or.inl ⟨by kernel_rfl, ?yb17⟩) (by assumption) ?_
  case yb17 => (intro w hSw; (try dsimp only at hSw); first | (go_simp; done) | (go_simp; with_reducible rfl))
  try simp only [Act.put, List.setIfInBounds_toArray, List.set_cons_zero, List.set_cons_succ, List.getElem_toArray, List.getElem_cons_succ, List.getElem_cons_zero]
  refine wpAnyH_take (i := 18) (v := .bool true) rfl (by kernel_rfl) (by kernel_rfl) (by kernel_rfl) (fun _ _ _ h => h) (Or.inl ⟨by kernel_rfl, ?yb18⟩) (by assumption) ?_
  case yb18 => (intro w hSw; (try dsimp only at hSw); first | (go_simp; done) | (go_simp; with_reducible rfl))
  try simp only [Act.put, List.setIfInBounds_toArray, List.set_cons_zero, List.set_cons_succ, List.getElem_toArray, List.getElem_cons_succ, List.getElem_cons_zero]
  refine wpAnyH_ready (rs := [19]) (by kernel_rfl) (by simp) ?_
  refine AllReadyH.cons rfl (fun K hK => ?_) AllReadyH.nil
  rw [if_pos (by rfl)]
  go_simp
  go_at_call 6
  refine (lives_any w13).mono ?_
  rintro e w14 ⟨rfl, hb14⟩
  have hS14 := range_below hHeld hb14 HY13.out.lt
  have HY14 := Lib.hid (HY13.out.below hb14 HY13.out.lt)
  have HB14 := Lib.hid (Below.to HB13.out hb14 HB13.out.size)
  have HZ14 := Lib.hid (HZ13.out.below hb14)
  clear hHeld hb14
  refine hK.out _ _ hS14 (fun hHeld => ?_)
  clear hK K
  clear hS14 HY13 HB13 HZ13
  refine wpAnyH_take (i := 20) (v := .bool true) rfl (by kernel_rfl) (by kernel_rfl) (by kernel_rfl) (fun _ _ _ h => h) (Or.inl ⟨by kernel_rfl, ?yb20⟩) (by assumption) ?_
  case yb20 => (intro w hSw; (try dsimp only at hSw); first | (go_simp; done) | (go_simp; with_reducible rfl))
  try simp only [Act.put, List.setIfInBounds_toArray, List.set_cons_zero, List.set_cons_succ, List.getElem_toArray, List.getElem_cons_succ, List.getElem_cons_zero]
  refine wpAnyH_take (i := 21) (v := .bool true) rfl (by kernel_rfl) (by kernel_rfl) (by kernel_rfl) (fun _ _ _ h => h) (Or.inl ⟨by kernel_rfl, ?yb21⟩) (by assumption) ?_
  case yb21 => (intro w hSw; (try dsimp only at hSw); first | (go_simp; done) | (go_simp; with_reducible rfl))
  try simp only [Act.put, List.setIfInBounds_toArray, List.set_cons_zero, List.set_cons_succ, List.getElem_toArray, List.getElem_cons_succ, List.getElem_cons_zero]
  refine wpAnyH_done (by kernel_rfl) ?_ _
  go_wp2_with fail
  go_ret
  exact ⟨rfl, Below.to HB4.out HB14.out HB4.out.size⟩

end Go.Proofs.YtgfnelpfoegdaaaDoor
