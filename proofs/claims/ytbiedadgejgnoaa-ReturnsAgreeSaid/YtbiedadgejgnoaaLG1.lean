/-
  The law ReturnsAgree: its walk.
-/
import Derived.Test.YtbiedadgejgnoaaRtU
import Derived.Test.YtbiedadgejgnoaaRtK
import Derived.Test.YtbiedadgejgnoaaRtZ
import Derived.Test.YtbiedadgejgnoaaLO1
namespace Go.Proofs.Ytbiedadgejgnoaa
open Go.RowKit

theorem cov_between {l : List Ret} {cs : List (Int × Int)} {sent : Int} {out : List (Int × Int)} {nv : Bool} (h : Alw l cs sent out nv) (h0 : 0 < out.length) (d : Int) (hd : Cov out d) : out[0].1 ≤ d ∧ d ≤ out[out.length - 1].2 := by
  obtain ⟨s, hs, h1, h2⟩ := hd
  have g1 := apart_first h.apart h.val h0 s hs
  have g2 := apart_last h.apart h.val h0 s hs
  omega
theorem wrong_between (k f t d : Int) (h1 : f ≤ d) (h2 : d ≤ t) : wrongB ⟨k, 1, f, t⟩ d = false := by
  rw [wrongB_1 rfl]
  simp
  omega
theorem Alw.range {l : List Ret} {cs : List (Int × Int)} {sent : Int} {out : List (Int × Int)} {nv : Bool} (h : Alw l cs sent out nv) {s : Int × Int} (hs : s ∈ out) : sent ≤ s.1 ∧ s.1 ≤ s.2 ∧ s.2 ≤ 3652058 := by
  have hv := h.val s hs
  have h1 := (h.cov s.1).1 ⟨s, hs, Int.le_refl _, hv⟩
  have h2 := (h.cov s.2).1 ⟨s, hs, hv, Int.le_refl _⟩
  omega
theorem oks_add {n : Nat} {l : List Ret} {r : Ret} (h : RetsOk n l) (hr : RetOk n r) : RetsOk n (l ++ [r]) := fun x hx => by
  rcases List.mem_append.1 hx with h1 | h1
  · exact h x h1
  · simp at h1; subst h1; exact hr

/-- A literal laid before the row still reads when the row has grown. -/
theorem Rd.grown {w w' : World} {v : Value} {s n : Nat} {cs : List Value} {row : Option Nat} (h : Rd w v s n cs) (hg : w.grownBy w' row) (hne : ∀ k, v.ownBlock = some k → row ≠ some k) : Rd w' v s n cs :=
  h.same fun k hk hv => hg.block k hk (fun e => hne k hv e.symm)

/-- What a region does that puts good and one more return together: for each order of laying. -/
structure Two (w : World) (v : Value) (n : Nat) (gs : List Value) (x : Array Value) (row : List Value) : Prop where
  a1 : (w.alloc (.cells #[] 30)).drew.ownsRow w.heap.size 30 4 (.slice (some ⟨w.heap.size, 0, none⟩) 0 0) 0 []
  a2 : ((w.alloc (.cells #[] 30)).alloc (.cells x 30)).drew.ownsRow w.heap.size 30 4 (.slice (some ⟨w.heap.size, 0, none⟩) 0 0) 0 []
  a3 : ((w.alloc (.cells x 30)).alloc (.cells #[] 30)).drew.ownsRow w.heap.size 30 4 (.slice (some ⟨w.heap.size + 1, 0, none⟩) 0 0) 0 []
  b1 : Below w.heap.size w (w.alloc (.cells #[] 30)).drew
  b2 : Below w.heap.size w ((w.alloc (.cells #[] 30)).alloc (.cells x 30)).drew
  b3 : Below w.heap.size w ((w.alloc (.cells x 30)).alloc (.cells #[] 30)).drew
  g1 : Rd (w.alloc (.cells #[] 30)).drew v 4 n gs
  g2 : Rd ((w.alloc (.cells #[] 30)).alloc (.cells x 30)).drew v 4 n gs
  g3 : Rd ((w.alloc (.cells x 30)).alloc (.cells #[] 30)).drew v 4 n gs
  l1 : ∀ W : World, Rd (W.alloc (.cells x 30)) (.slice (some ⟨W.heap.size, 0, none⟩) 1 1) 4 1 row
  l2 : Rd ((w.alloc (.cells #[] 30)).alloc (.cells x 30)).drew (.slice (some ⟨w.heap.size + 1, 0, none⟩) 1 1) 4 1 row
  l3 : Rd ((w.alloc (.cells x 30)).alloc (.cells #[] 30)).drew (.slice (some ⟨w.heap.size, 0, none⟩) 1 1) 4 1 row
theorem two_of {w : World} {v : Value} {gs : List Ret} (r : Ret) (h : IsRts w v gs) : Two w v gs.length (rtCells gs) (litRt r) (rtRow r) := by
  have e1 := fun (W : World) (N : Nat) (hN : W.heap.size = N) (hB : w.heap.size ≤ W.heap.size) => litR0 W w.heap.size N hN hB
  have b1 : Below w.heap.size w (w.alloc (.cells #[] 30)).drew := ((Below.refl _ _).alloc (Nat.le_refl _) _).drew
  have b2 : Below w.heap.size w ((w.alloc (.cells #[] 30)).alloc (.cells (litRt r) 30)).drew := (((Below.refl _ _).alloc (Nat.le_refl _) _).alloc (by simp) _).drew
  have b3 : Below w.heap.size w ((w.alloc (.cells (litRt r) 30)).alloc (.cells #[] 30)).drew := (((Below.refl _ _).alloc (Nat.le_refl _) _).alloc (by simp) _).drew
  have l1 : ∀ W : World, Rd (W.alloc (.cells (litRt r) 30)) (.slice (some ⟨W.heap.size, 0, none⟩) 1 1) 4 1 (rtRow r) := fun W => Rd.lit W (litRt r) 30 4 1 rfl (by unfold maxLen; omega)
  refine ⟨?_, ?_, ?_, b1, b2, b3, Rd.below h b1, Rd.below h b2, Rd.below h b3, l1, ?_, ?_⟩
  · exact owns_below (e1 w _ rfl (Nat.le_refl _)) ((Below.refl _ _).drew)
  · exact owns_below (e1 w _ rfl (Nat.le_refl _)) (((Below.refl _ _).alloc (Nat.le_refl _) _).drew)
  · exact owns_below (e1 _ _ (by simp) (by simp)) ((Below.refl _ _).drew)
  · have h := (l1 (w.alloc (.cells #[] 30))).below ((Below.refl _ _).drew)
    rw [World.size_alloc] at h
    exact h
  · exact (l1 w).below (((Below.refl _ _).alloc (Nat.le_refl _) _).drew)

set_option maxHeartbeats 2000000 in
set_option maxRecDepth 100000 in
theorem returnsAgree_any (c l : List Int) (v u : Value) (n at' by' : Int) (w : World) (hx : IsInts w v c) (hc : ∀ x ∈ c, I64 x) (hy : IsInts w u l) (hl : ∀ x ∈ l, I64 x) (hn : I64 n) (ha : I64 at') (hd : I64 by') :
    Calls Try.prog 8 #[v, u, .int .i64 n, .int .i64 at', .int .i64 by'] w fun e w' => e = .returned (.bool true) ∧ Below w.heap.size w w' := by
  have HM := Lib.hid (made_any c l v u n w hx hc hy hl hn)
  have HA : Hid (∀ m : Nat, 0 < m → ∃ k : Nat, k < m ∧ ∀ W, Calls Try.prog 14 #[.int .i64 at', .int .i64 (m : Int)] W fun e w' => e = .returned (.int .i64 (k : Int)) ∧ W = w') := fun m hm => by
    obtain ⟨k, hk, hlt⟩ := around_nat (n := at') (m := m) hm
    exact ⟨k, hlt, fun W => by have h := around_any at' (m : Int) ha (by omega) W; rw [hk] at h; exact h⟩
  have HY : Hid (∀ m : Nat, 0 < m → ∃ k : Nat, k < m ∧ ∀ W, Calls Try.prog 14 #[.int .i64 by', .int .i64 (m : Int)] W fun e w' => e = .returned (.int .i64 (k : Int)) ∧ W = w') := fun m hm => by
    obtain ⟨k, hk, hlt⟩ := around_nat (n := by') (m := m) hm
    exact ⟨k, hlt, fun W => by have h := around_any by' (m : Int) hd (by omega) W; rw [hk] at h; exact h⟩
  obtain ⟨hb0, hb1⟩ := baseF_in n
  obtain ⟨a1, c1, rfl, -, -, -⟩ := hx.open
  obtain ⟨a2, c2, rfl, -, -, -⟩ := hy.open
  generalize baseF n = D at *
  clear hx hy hc hl hn hd ha
  go_enter Try.func8, Try.ntmps8
  go_wp2_with fail
  refine HM.out.mono ?_
  rintro e w1 ⟨v1, v2, rfl, cs, rs, HG, HR, hv1, hv2, hb1'⟩
  have hrl := HR.out.2.1
  have hcl := HG.out.2.2
  have hcp := HG.out.2.1
  obtain ⟨kc, hkc, hyc⟩ := HY.out cs.length (by omega)
  have HYC := Lib.hid hyc
  obtain ⟨a3, c3, rfl, -, -⟩ := hv2.open
  obtain ⟨a4, c4, rfl, -, -, -⟩ := hv1.open
  clear hyc HY
  go_wp2_with fail
  refine (allowed_any rs cs _ _ D _ hv2 hv1 (by omega) (by omega) HR.out.1 HG.out.1.ok hb0 hb1).mono ?_
  rintro e w2 ⟨v5, nv, rfl, out, HAL, hv5, hb2⟩
  have HB2 := Lib.hid (Below.to hb1' hb2 hb1'.size)
  have HV1 := Lib.hid (hv1.below hb2)
  have HV2 := Lib.hid (hv2.below hb2)
  have HV5 := Lib.hid hv5
  by_cases hz : out.length = 0
  · have hnv : nv = true := by
      cases nv with
      | true => rfl
      | false => have := HAL.out.pos; omega
    subst hnv
    obtain ⟨a5, c5, rfl, -, -, -⟩ := hv5.open
    have hz1 : ((out.length : Int) == 0) = true := by simp [hz]
    have hz2 : (out.length == 0) = true := by simp [hz]
    have hz3 : ¬ 0 < (out.length : Int) := by omega
    clear hv1 hv2 hb1' HM hv5 hb2
    go_wp2_with fail
    refine (HYC.out _).mono ?_
    rintro e w' ⟨rfl, rfl⟩
    have HBA : Hid (∀ o, Below w.heap.size w (w2.alloc o)) := fun o => Below.to HB2.out ((Below.refl _ _).alloc (Nat.le_refl _) _) HB2.out.size
    go_wp2_with fail
    refine (lives_any _).mono ?_
    rintro e w99 ⟨rfl, hb99⟩
    have HB99 := Lib.hid (Below.to (HBA.out _) hb99 (HBA.out _).size)
    clear hb99
    go_wp2_with fail
    go_ret
    exact ⟨rfl, HB99.out⟩
  have hz0 : 0 < out.length := by omega
  obtain ⟨_, cx, _, hmx, -, -⟩ := hv5.open
  unfold maxLen at hmx
  obtain ⟨b5, o5, c5, rfl, hlt5, x0, -⟩ := hv5.at hz0
  obtain ⟨b6, o6, c6, e6, -, -, x1⟩ := hv5.at (k := out.length - 1) (by omega)
  simp only [Value.slice.injEq, true_and, Option.some.injEq, Addr.mk.injEq, and_true] at e6
  obtain ⟨⟨rfl, rfl⟩, rfl⟩ := e6
  have HCB := Lib.hid (cov_between HAL.out hz0)
  have hr0 := HAL.out.range (List.getElem_mem hz0)
  have hr1 := HAL.out.range (s := out[out.length - 1]) (List.getElem_mem _)
  have HLE : Hid (out[0].1 ≤ out[out.length - 1].2) := apart_last HAL.out.apart HAL.out.val hz0 out[0] (List.getElem_mem _) |> Int.le_trans (HAL.out.val out[0] (List.getElem_mem _))
  obtain ⟨F, hF⟩ : ∃ F, out[0].1 = F := ⟨_, rfl⟩
  obtain ⟨U, hU⟩ : ∃ U, out[out.length - 1].2 = U := ⟨_, rfl⟩
  rw [hF] at HCB HLE x0 hr0
  rw [hU] at HCB HLE x1 hr1
  obtain ⟨ja, hja, hyj⟩ := HA.out out.length hz0
  have HYJ := Lib.hid hyj
  obtain ⟨b7, o7, c7, e7, -, y0, y1⟩ := hv5.at hja
  simp only [Value.slice.injEq, true_and, Option.some.injEq, Addr.mk.injEq, and_true] at e7
  obtain ⟨⟨rfl, rfl⟩, rfl⟩ := e7
  have hrj := HAL.out.range (List.getElem_mem hja)
  have HCJ : Hid (Cov out out[ja].1) := ⟨out[ja], List.getElem_mem _, Int.le_refl _, HAL.out.val _ (List.getElem_mem _)⟩
  obtain ⟨⟨s1, s2⟩, hsj⟩ : ∃ s, out[ja] = s := ⟨_, rfl⟩
  rw [hsj] at y0 y1 hrj HCJ
  simp only at y0 y1 hrj HCJ
  have HF1 : Hid (RetsOk cs.length (rs ++ [⟨kc, 1, F, U⟩])) := oks_add HR.out.1 ⟨⟨by simp only; omega, by simp only; omega⟩, .inl ⟨rfl, by simp only; omega, HLE.out, by simp only; omega⟩⟩
  have HF2 : Hid (RetsOk cs.length (rs ++ [⟨kc, 1, s1, s1⟩])) := oks_add HR.out.1 ⟨⟨by simp only; omega, by simp only; omega⟩, .inl ⟨rfl, by simp only; omega, Int.le_refl _, by simp only; omega⟩⟩
  have HAG : Hid (nv = false → ∀ out' nv', Alw (rs ++ [⟨kc, 1, F, U⟩]) cs D out' nv' → out' = out ∧ nv' = false) := fun h out' nv' h' => by
    subst h
    exact HAL.out.agree (fun d hd => wrong_between _ _ _ _ (HCB.out d hd).1 (HCB.out d hd).2) h'
  have HKP : Hid (∀ out' nv', Alw (rs ++ [⟨kc, 1, s1, s1⟩]) cs D out' nv' → hasDay out' nv' s1 = true) := fun out' nv' h' => HAL.out.keeps HCJ.out (wrong_between _ _ _ _ (Int.le_refl _) (Int.le_refl _)) hb0 h'
  have hz1 : ((out.length : Int) == 0) = false := by simp; exact fun h => hz (by rw [h]; rfl)
  have hz2 : (out.length == 0) = false := by simpa using hz
  have hz3 : 0 < (out.length : Int) := by omega
  have hsub : IntKind.i64.wrap ((out.length : Int) - 1) = ((out.length - 1 : Nat) : Int) := by rw [IntKind.wrap_i64]; omega
  have hltL : ((out.length - 1 : Nat) : Int) < (out.length : Int) := by omega
  have hjaL : (ja : Int) < (out.length : Int) := by omega
  have HX : Hid (w2.cell? ⟨b5, o5 + 0 * 2, none⟩ = some (.int .i64 F) ∧ w2.cell? ⟨b5, o5 + (out.length - 1) * 2 + 1, none⟩ = some (.int .i64 U) ∧ w2.cell? ⟨b5, o5 + ja * 2, none⟩ = some (.int .i64 s1) ∧ w2.cell? ⟨b5, o5 + ja * 2 + 1, none⟩ = some (.int .i64 s2)) := ⟨x0, x1, y0, y1⟩
  have HLN : Hid (rs.length ≤ 8) := hrl
  clear hv1 hv2 hb1' HM hv5 hb2 hyj HA hr0 hr1 hrj hF hU hsj HLE HCJ HCB hz x0 x1 y0 y1
  go_wp2_with fail
  refine (HYC.out _).mono ?_
  rintro e w' ⟨rfl, rfl⟩
  have HS2 : Hid (b5 < w2.heap.size) := hlt5
  have f0 : (w2.alloc (.cells #[.int .i64 (kc : Int), .int .i64 3, .int .i64 0, .int .i64 0] 30)).cell? ⟨b5, o5, none⟩ = some (.int .i64 F) := by
    have h := HX.out.1
    rw [Nat.zero_mul, Nat.add_zero] at h
    exact (((Below.refl _ _).alloc (Nat.le_refl _) _).cell (p := ⟨b5, o5, none⟩) hlt5).trans h
  have f1 : (w2.alloc (.cells #[.int .i64 (kc : Int), .int .i64 3, .int .i64 0, .int .i64 0] 30)).cell? ⟨b5, o5 + (out.length - 1) * 2 + 1, none⟩ = some (.int .i64 U) := (((Below.refl _ _).alloc (Nat.le_refl _) _).cell (p := ⟨b5, o5 + (out.length - 1) * 2 + 1, none⟩) hlt5).trans HX.out.2.1
  go_wp2_with fail
  go_region
  obtain ⟨W3, hW3⟩ : ∃ W3, W3 = (w2.alloc (.cells #[.int .i64 (kc : Int), .int .i64 1, .int .i64 F, .int .i64 U] 30)).drew := ⟨_, rfl⟩
  rw [← hW3]
  have hb23 : Below w2.heap.size w2 W3 := by rw [hW3]; exact ((Below.refl _ _).alloc (Nat.le_refl _) _).drew
  have hsh : W3.heap[w2.heap.size]? = some (.cells #[.int .i64 (kc : Int), .int .i64 1, .int .i64 F, .int .i64 U] 30) := by rw [hW3]; exact World.alloc_heap_new w2 (.cells #[.int .i64 (kc : Int), .int .i64 1, .int .i64 F, .int .i64 U] 30)
  have hsz : w2.heap.size < W3.heap.size := by rw [hW3]; simp
  obtain ⟨P, hP⟩ : ∃ P, P = w2.heap.size := ⟨_, rfl⟩
  have HXW : Hid (W3.cell? ⟨b5, o5 + ja * 2, none⟩ = some (.int .i64 s1) ∧ W3.cell? ⟨b5, o5 + ja * 2 + 1, none⟩ = some (.int .i64 s2)) := ⟨(hb23.cell (p := ⟨b5, o5 + ja * 2, none⟩) HS2.out).trans HX.out.2.2.1, (hb23.cell (p := ⟨b5, o5 + ja * 2 + 1, none⟩) HS2.out).trans HX.out.2.2.2⟩
  have HS3 : Hid (b5 < W3.heap.size) := Nat.lt_of_lt_of_le HS2.out hb23.size
  have HB3 := Lib.hid (Below.to HB2.out hb23 HB2.out.size)
  have HV13 := Lib.hid (HV1.out.below hb23)
  have HV23 := Lib.hid (HV2.out.below hb23)
  have HV53 := Lib.hid (HV5.out.below hb23)
  rw [← hP]
  rw [← hP] at hsh hsz
  have dlt : Hid (P < W3.heap.size) := hsz
  have dc0 : W3.cell? ⟨P, 0, none⟩ = some (.int .i64 (kc : Int)) := by simp [World.cell?, hsh]
  have dc1 : W3.cell? ⟨P, 1, none⟩ = some (.int .i64 1) := by simp [World.cell?, hsh]
  have dc2 : W3.cell? ⟨P, 2, none⟩ = some (.int .i64 F) := by simp [World.cell?, hsh]
  have dc3 : W3.cell? ⟨P, 3, none⟩ = some (.int .i64 U) := by simp [World.cell?, hsh]
  clear hW3 hP hsz hsh hb23 f0 f1 HV1 HV2 HV5 HB2 HX HYC hsub hltL
  cases nv with
  | true =>
    clear dc0 dc1 dc2 dc3 HV53 HAG
    have y0 := HXW.out.1
    have y1 := HXW.out.2
    go_wp2_with fail
    refine (HYJ.out _).mono ?_
    rintro e w' ⟨rfl, rfl⟩
    go_wp2_with fail
    obtain ⟨W9, hW9⟩ : ∃ W9, W9 = (W3.alloc (.cells #[.int .i64 s1, .int .i64 s2] 44)).alloc (.cells #[.int .i64 (kc : Int), .int .i64 1, .int .i64 s1, .int .i64 s1] 30) := ⟨_, rfl⟩
    rw [← hW9]
    have hb39 : Below W3.heap.size W3 W9 := by rw [hW9]; exact ((Below.refl _ _).alloc (Nat.le_refl _) _).alloc (by simp) _
    have hsh : W9.heap[W3.heap.size + 1]? = some (.cells #[.int .i64 (kc : Int), .int .i64 1, .int .i64 s1, .int .i64 s1] 30) := by
      have h := World.alloc_heap_new (W3.alloc (.cells #[.int .i64 s1, .int .i64 s2] 44)) (.cells #[.int .i64 (kc : Int), .int .i64 1, .int .i64 s1, .int .i64 s1] 30)
      rw [World.size_alloc] at h
      rw [hW9]; exact h
    have hsp : W9.heap[W3.heap.size]? = some (.cells #[.int .i64 s1, .int .i64 s2] 44) := by
      rw [hW9]
      exact (Below.heap_alloc _ _ _ (by simp)).trans (World.alloc_heap_new W3 (.cells #[.int .i64 s1, .int .i64 s2] 44))
    have hsz : W9.heap.size = W3.heap.size + 2 := by rw [hW9]; simp
    obtain ⟨P9, hP9⟩ : ∃ P9, P9 = W3.heap.size + 1 := ⟨_, rfl⟩
    obtain ⟨PQ, hPQ⟩ : ∃ PQ, PQ = W3.heap.size := ⟨_, rfl⟩
    rw [← hP9, ← hPQ]
    have tlt : Hid (P9 < W9.heap.size) := by show _ < _; omega
    have plt : Hid (PQ < W9.heap.size) := by show _ < _; omega
    rw [← hP9] at hsh
    rw [← hPQ] at hsp
    have tc0 : W9.cell? ⟨P9, 0, none⟩ = some (.int .i64 (kc : Int)) := by simp [World.cell?, hsh]
    have tc1 : W9.cell? ⟨P9, 1, none⟩ = some (.int .i64 1) := by simp [World.cell?, hsh]
    have tc2 : W9.cell? ⟨P9, 2, none⟩ = some (.int .i64 s1) := by simp [World.cell?, hsh]
    have tc3 : W9.cell? ⟨P9, 3, none⟩ = some (.int .i64 s1) := by simp [World.cell?, hsh]
    have pz : W9.cell? ⟨PQ, 0, none⟩ = some (.int .i64 s1) := by simp [World.cell?, hsp]
    have HB9 := Lib.hid (Below.to HB3.out hb39 HB3.out.size)
    have HV19 := Lib.hid (HV13.out.below hb39)
    have HV29 := Lib.hid (HV23.out.below hb39)
    clear hW9 hP9 hPQ hsz hsh hsp hb39 y0 y1
    have HTW := Lib.hid (two_of ⟨(kc : Int), 1, s1, s1⟩ HV29.out)
    have HKS : Hid (∀ w', Below W9.heap.size W9 w' → w'.cell? ⟨P9, 0, none⟩ = some (.int .i64 (kc : Int)) ∧ w'.cell? ⟨P9, 1, none⟩ = some (.int .i64 1) ∧ w'.cell? ⟨P9, 2, none⟩ = some (.int .i64 s1) ∧ w'.cell? ⟨P9, 3, none⟩ = some (.int .i64 s1)) := fun w' hw => ⟨(hw.cell (p := ⟨P9, 0, none⟩) tlt.out).trans tc0, (hw.cell (p := ⟨P9, 1, none⟩) tlt.out).trans tc1, (hw.cell (p := ⟨P9, 2, none⟩) tlt.out).trans tc2, (hw.cell (p := ⟨P9, 3, none⟩) tlt.out).trans tc3⟩
    have KD : Hid (W9.drew.cell? ⟨P9, 0, none⟩ = some (.int .i64 (kc : Int)) ∧ W9.drew.cell? ⟨P9, 1, none⟩ = some (.int .i64 1) ∧ W9.drew.cell? ⟨P9, 2, none⟩ = some (.int .i64 s1) ∧ W9.drew.cell? ⟨P9, 3, none⟩ = some (.int .i64 s1)) := HKS.out _ ((Below.refl _ _).drew)
    have HN1 : Hid (0 + rs.length ≤ maxLen) := (by show _ ≤ _; unfold maxLen; omega)
    have HN2 : Hid ((0 + rs.length) * 32 ≤ 140737488355328) := (by show _ ≤ _; omega)
    have HN3 : Hid (rs.length + 1 ≤ maxLen) := (by show _ ≤ _; unfold maxLen; omega)
    have HN4 : Hid ((rs.length + 1) * 32 ≤ 140737488355328) := (by show _ ≤ _; omega)
    have HR1 : Hid (∀ u ∈ rtRow ⟨(kc : Int), 1, s1, s1⟩, u.oneCell' = true) := by intro c hc; simp [rtRow] at hc; rcases hc with rfl | rfl | rfl | rfl <;> rfl
    go_wp2_with fail
    go_region_held3 (fun w' => w'.cell? ⟨P9, 0, none⟩ = some (.int .i64 (kc : Int)) ∧ w'.cell? ⟨P9, 1, none⟩ = some (.int .i64 1) ∧ w'.cell? ⟨P9, 2, none⟩ = some (.int .i64 s1) ∧ w'.cell? ⟨P9, 3, none⟩ = some (.int .i64 s1))
      (first
        | exact KD.out
        | exact K6.out
        | exact K5.out
        | exact K4.out
        | exact HKS.out _ HTW.out.b1
        | exact HKS.out _ HTW.out.b2
        | exact HKS.out _ HTW.out.b3
        | exact HKS.out _ (((Below.refl _ _).alloc (Nat.le_refl _) _).drew)
        | exact HKS.out _ (Below.to HB4.out ((Below.refl _ _).alloc (Nat.le_refl _) _) HB4.out.size)
        | go_keep)
      (first
        | (refine step_append_rd (by rfl) _ _ 24 (by rfl) W9.heap.size 30 _ 4 32 Try.underlying24 infoRt rfl (by decide) (.slice (some ⟨W9.heap.size, 0, none⟩) 0 0) 0 [] (by rfl) HTW.out.a1 _ rs.length (rtCells rs) (by rfl) HTW.out.g1 (rtCells_one rs) HN1.out HN2.out HTW.out.b1.size ?_
           intro v3 w3 hv3 hg3
           have HB4 : Hid (Below W9.heap.size W9 w3) := below_append HTW.out.b1 HTW.out.a1 hg3 HTW.out.b1.size
           have HO4 : Hid (w3.ownsRow W9.heap.size 30 4 v3 rs.length (rtCells rs)) := by (have h := hv3; rw [Nat.zero_add, List.nil_append] at h; exact h)
           have K4 := Lib.hid (HKS.out _ HB4.out)
           clear hv3 hg3)
        | (refine step_append_rd (by rfl) _ _ 24 (by rfl) W9.heap.size 30 _ 4 32 Try.underlying24 infoRt rfl (by decide) (.slice (some ⟨W9.heap.size, 0, none⟩) 0 0) 0 [] (by rfl) HTW.out.a2 _ rs.length (rtCells rs) (by rfl) HTW.out.g2 (rtCells_one rs) HN1.out HN2.out HTW.out.b2.size ?_
           intro v3 w3 hv3 hg3
           have HB4 : Hid (Below W9.heap.size W9 w3) := below_append HTW.out.b2 HTW.out.a2 hg3 HTW.out.b2.size
           have HO4 : Hid (w3.ownsRow W9.heap.size 30 4 v3 rs.length (rtCells rs)) := by (have h := hv3; rw [Nat.zero_add, List.nil_append] at h; exact h)
           have K4 := Lib.hid (HKS.out _ HB4.out)
           have HLL := Lib.hid (Rd.grown HTW.out.l2 hg3 (by intro k hk hh; simp [Value.ownBlock] at hk hh; omega))
           clear hv3 hg3)
        | (refine step_append_rd (by rfl) _ _ 24 (by rfl) W9.heap.size 30 _ 4 32 Try.underlying24 infoRt rfl (by decide) (.slice (some ⟨W9.heap.size + 1, 0, none⟩) 0 0) 0 [] (by rfl) HTW.out.a3 _ rs.length (rtCells rs) (by rfl) HTW.out.g3 (rtCells_one rs) HN1.out HN2.out HTW.out.b3.size ?_
           intro v3 w3 hv3 hg3
           have HB4 : Hid (Below W9.heap.size W9 w3) := below_append HTW.out.b3 HTW.out.a3 hg3 HTW.out.b3.size
           have HO4 : Hid (w3.ownsRow W9.heap.size 30 4 v3 rs.length (rtCells rs)) := by (have h := hv3; rw [Nat.zero_add, List.nil_append] at h; exact h)
           have K4 := Lib.hid (HKS.out _ HB4.out)
           have HLL := Lib.hid (Rd.grown HTW.out.l3 hg3 (by intro k hk hh; simp [Value.ownBlock] at hk hh; omega))
           clear hv3 hg3)
        | (refine step_append_rd (by rfl) _ _ 24 (by rfl) W9.heap.size 30 _ 4 32 Try.underlying24 infoRt rfl (by decide) v3 rs.length (rtCells rs) (by rfl) (owns_below HO4.out ((Below.refl _ _).alloc (Nat.le_refl _) _)) _ 1 (rtRow ⟨(kc : Int), 1, s1, s1⟩) (by rfl) (HTW.out.l1 w3) HR1.out HN3.out HN4.out (Below.to HB4.out ((Below.refl _ _).alloc (Nat.le_refl _) _) HB4.out.size).size ?_
           intro v4 w4 hv4 hg4
           have HB5 : Hid (Below W9.heap.size W9 w4) := below_append (Below.to HB4.out ((Below.refl _ _).alloc (Nat.le_refl _) _) HB4.out.size) (owns_below HO4.out ((Below.refl _ _).alloc (Nat.le_refl _) _)) hg4 (Below.to HB4.out ((Below.refl _ _).alloc (Nat.le_refl _) _) HB4.out.size).size
           have HVR : Hid (IsRts w4 v4 (rs ++ [⟨(kc : Int), 1, s1, s1⟩])) := by
             refine IsRts.of_owns (n := rs.length + 1) (B := W9.heap.size) (e := 30) ?_
             rw [rtCells_append, rtCells_single]
             exact hv4
           have K5 := Lib.hid (HKS.out _ HB5.out)
           clear hv4 hg4)
        | (refine step_append_rd (by rfl) _ _ 24 (by rfl) W9.heap.size 30 _ 4 32 Try.underlying24 infoRt rfl (by decide) v3 rs.length (rtCells rs) (by rfl) HO4.out _ 1 (rtRow ⟨(kc : Int), 1, s1, s1⟩) (by rfl) HLL.out HR1.out HN3.out HN4.out HB4.out.size ?_
           intro v4 w4 hv4 hg4
           have HB5 : Hid (Below W9.heap.size W9 w4) := below_append HB4.out HO4.out hg4 HB4.out.size
           have HVR : Hid (IsRts w4 v4 (rs ++ [⟨(kc : Int), 1, s1, s1⟩])) := by
             refine IsRts.of_owns (n := rs.length + 1) (B := W9.heap.size) (e := 30) ?_
             rw [rtCells_append, rtCells_single]
             exact hv4
           have K5 := Lib.hid (HKS.out _ HB5.out)
           clear hv4 hg4)
        | (go_at_call 18
           refine (allowed_any (rs ++ [⟨(kc : Int), 1, s1, s1⟩]) cs _ _ D _ HVR.out (HV19.out.below HB5.out) (by simp; omega) (by omega) HF2.out HG.out.1.ok hb0 hb1).mono ?_
           rintro e w5 ⟨v6, nv', rfl, out', HAL', hv6, hb6⟩
           have HV6 := Lib.hid hv6
           have HB6 := Lib.hid (Below.to HB5.out hb6 HB5.out.size)
           have K6 := Lib.hid (HKS.out _ HB6.out)
           clear hv6 hb6))
    all_goals
      have HHD := Lib.hid (HKP.out _ _ HAL'.out)
      have z9 := (HB6.out.cell (p := ⟨PQ, 0, none⟩) plt.out).trans pz
      have HB7 := Lib.hid (Below.to HB9.out HB6.out HB9.out.size)
      have HL := Lib.hid lives_any
      obtain ⟨a6, c6, rfl, -, -, -⟩ := HV6.out.open
      go_wp2_with fail
      refine (hasDay_any _ _ _ _ _ HV6.out).mono ?_
      rintro e w8 ⟨rfl, hb8⟩
      rw [HHD.out]
      have HB8 := Lib.hid (Below.to HB7.out hb8 HB7.out.size)
      clear hb8 z9
      go_wp2_with fail
      refine (HL.out _).mono ?_
      rintro e w99 ⟨rfl, hb99⟩
      have HB99 := Lib.hid (Below.to HB8.out hb99 HB8.out.size)
      clear hb99
      go_wp2_with fail
      go_ret
      exact ⟨rfl, HB99.out⟩
  | false =>
    have HTW := Lib.hid (two_of ⟨(kc : Int), 1, F, U⟩ HV23.out)
    have HKS : Hid (∀ w', Below W3.heap.size W3 w' → w'.cell? ⟨P, 0, none⟩ = some (.int .i64 (kc : Int)) ∧ w'.cell? ⟨P, 1, none⟩ = some (.int .i64 1) ∧ w'.cell? ⟨P, 2, none⟩ = some (.int .i64 F) ∧ w'.cell? ⟨P, 3, none⟩ = some (.int .i64 U)) := fun w' hw => ⟨(hw.cell (p := ⟨P, 0, none⟩) dlt.out).trans dc0, (hw.cell (p := ⟨P, 1, none⟩) dlt.out).trans dc1, (hw.cell (p := ⟨P, 2, none⟩) dlt.out).trans dc2, (hw.cell (p := ⟨P, 3, none⟩) dlt.out).trans dc3⟩
    have KD : Hid (W3.drew.cell? ⟨P, 0, none⟩ = some (.int .i64 (kc : Int)) ∧ W3.drew.cell? ⟨P, 1, none⟩ = some (.int .i64 1) ∧ W3.drew.cell? ⟨P, 2, none⟩ = some (.int .i64 F) ∧ W3.drew.cell? ⟨P, 3, none⟩ = some (.int .i64 U)) := HKS.out _ ((Below.refl _ _).drew)
    have HN1 : Hid (0 + rs.length ≤ maxLen) := (by show _ ≤ _; unfold maxLen; omega)
    have HN2 : Hid ((0 + rs.length) * 32 ≤ 140737488355328) := (by show _ ≤ _; omega)
    have HN3 : Hid (rs.length + 1 ≤ maxLen) := (by show _ ≤ _; unfold maxLen; omega)
    have HN4 : Hid ((rs.length + 1) * 32 ≤ 140737488355328) := (by show _ ≤ _; omega)
    have HR1 : Hid (∀ u ∈ rtRow ⟨(kc : Int), 1, F, U⟩, u.oneCell' = true) := by intro c hc; simp [rtRow] at hc; rcases hc with rfl | rfl | rfl | rfl <;> rfl
    go_wp2_with fail
    go_region_held3 (fun w' => w'.cell? ⟨P, 0, none⟩ = some (.int .i64 (kc : Int)) ∧ w'.cell? ⟨P, 1, none⟩ = some (.int .i64 1) ∧ w'.cell? ⟨P, 2, none⟩ = some (.int .i64 F) ∧ w'.cell? ⟨P, 3, none⟩ = some (.int .i64 U))
      (first
        | exact KD.out
        | exact K6.out
        | exact K5.out
        | exact K4.out
        | exact HKS.out _ HTW.out.b1
        | exact HKS.out _ HTW.out.b2
        | exact HKS.out _ HTW.out.b3
        | exact HKS.out _ (((Below.refl _ _).alloc (Nat.le_refl _) _).drew)
        | exact HKS.out _ (Below.to HB4.out ((Below.refl _ _).alloc (Nat.le_refl _) _) HB4.out.size)
        | go_keep)
      (first
        | (refine step_append_rd (by rfl) _ _ 24 (by rfl) W3.heap.size 30 _ 4 32 Try.underlying24 infoRt rfl (by decide) (.slice (some ⟨W3.heap.size, 0, none⟩) 0 0) 0 [] (by rfl) HTW.out.a1 _ rs.length (rtCells rs) (by rfl) HTW.out.g1 (rtCells_one rs) HN1.out HN2.out HTW.out.b1.size ?_
           intro v3 w3 hv3 hg3
           have HB4 : Hid (Below W3.heap.size W3 w3) := below_append HTW.out.b1 HTW.out.a1 hg3 HTW.out.b1.size
           have HO4 : Hid (w3.ownsRow W3.heap.size 30 4 v3 rs.length (rtCells rs)) := by (have h := hv3; rw [Nat.zero_add, List.nil_append] at h; exact h)
           have K4 := Lib.hid (HKS.out _ HB4.out)
           clear hv3 hg3)
        | (refine step_append_rd (by rfl) _ _ 24 (by rfl) W3.heap.size 30 _ 4 32 Try.underlying24 infoRt rfl (by decide) (.slice (some ⟨W3.heap.size, 0, none⟩) 0 0) 0 [] (by rfl) HTW.out.a2 _ rs.length (rtCells rs) (by rfl) HTW.out.g2 (rtCells_one rs) HN1.out HN2.out HTW.out.b2.size ?_
           intro v3 w3 hv3 hg3
           have HB4 : Hid (Below W3.heap.size W3 w3) := below_append HTW.out.b2 HTW.out.a2 hg3 HTW.out.b2.size
           have HO4 : Hid (w3.ownsRow W3.heap.size 30 4 v3 rs.length (rtCells rs)) := by (have h := hv3; rw [Nat.zero_add, List.nil_append] at h; exact h)
           have K4 := Lib.hid (HKS.out _ HB4.out)
           have HLL := Lib.hid (Rd.grown HTW.out.l2 hg3 (by intro k hk hh; simp [Value.ownBlock] at hk hh; omega))
           clear hv3 hg3)
        | (refine step_append_rd (by rfl) _ _ 24 (by rfl) W3.heap.size 30 _ 4 32 Try.underlying24 infoRt rfl (by decide) (.slice (some ⟨W3.heap.size + 1, 0, none⟩) 0 0) 0 [] (by rfl) HTW.out.a3 _ rs.length (rtCells rs) (by rfl) HTW.out.g3 (rtCells_one rs) HN1.out HN2.out HTW.out.b3.size ?_
           intro v3 w3 hv3 hg3
           have HB4 : Hid (Below W3.heap.size W3 w3) := below_append HTW.out.b3 HTW.out.a3 hg3 HTW.out.b3.size
           have HO4 : Hid (w3.ownsRow W3.heap.size 30 4 v3 rs.length (rtCells rs)) := by (have h := hv3; rw [Nat.zero_add, List.nil_append] at h; exact h)
           have K4 := Lib.hid (HKS.out _ HB4.out)
           have HLL := Lib.hid (Rd.grown HTW.out.l3 hg3 (by intro k hk hh; simp [Value.ownBlock] at hk hh; omega))
           clear hv3 hg3)
        | (refine step_append_rd (by rfl) _ _ 24 (by rfl) W3.heap.size 30 _ 4 32 Try.underlying24 infoRt rfl (by decide) v3 rs.length (rtCells rs) (by rfl) (owns_below HO4.out ((Below.refl _ _).alloc (Nat.le_refl _) _)) _ 1 (rtRow ⟨(kc : Int), 1, F, U⟩) (by rfl) (HTW.out.l1 w3) HR1.out HN3.out HN4.out (Below.to HB4.out ((Below.refl _ _).alloc (Nat.le_refl _) _) HB4.out.size).size ?_
           intro v4 w4 hv4 hg4
           have HB5 : Hid (Below W3.heap.size W3 w4) := below_append (Below.to HB4.out ((Below.refl _ _).alloc (Nat.le_refl _) _) HB4.out.size) (owns_below HO4.out ((Below.refl _ _).alloc (Nat.le_refl _) _)) hg4 (Below.to HB4.out ((Below.refl _ _).alloc (Nat.le_refl _) _) HB4.out.size).size
           have HVR : Hid (IsRts w4 v4 (rs ++ [⟨(kc : Int), 1, F, U⟩])) := by
             refine IsRts.of_owns (n := rs.length + 1) (B := W3.heap.size) (e := 30) ?_
             rw [rtCells_append, rtCells_single]
             exact hv4
           have K5 := Lib.hid (HKS.out _ HB5.out)
           clear hv4 hg4)
        | (refine step_append_rd (by rfl) _ _ 24 (by rfl) W3.heap.size 30 _ 4 32 Try.underlying24 infoRt rfl (by decide) v3 rs.length (rtCells rs) (by rfl) HO4.out _ 1 (rtRow ⟨(kc : Int), 1, F, U⟩) (by rfl) HLL.out HR1.out HN3.out HN4.out HB4.out.size ?_
           intro v4 w4 hv4 hg4
           have HB5 : Hid (Below W3.heap.size W3 w4) := below_append HB4.out HO4.out hg4 HB4.out.size
           have HVR : Hid (IsRts w4 v4 (rs ++ [⟨(kc : Int), 1, F, U⟩])) := by
             refine IsRts.of_owns (n := rs.length + 1) (B := W3.heap.size) (e := 30) ?_
             rw [rtCells_append, rtCells_single]
             exact hv4
           have K5 := Lib.hid (HKS.out _ HB5.out)
           clear hv4 hg4)
        | (go_at_call 18
           refine (allowed_any (rs ++ [⟨(kc : Int), 1, F, U⟩]) cs _ _ D _ HVR.out (HV13.out.below HB5.out) (by simp; omega) (by omega) HF1.out HG.out.1.ok hb0 hb1).mono ?_
           rintro e w5 ⟨v6, nv', rfl, out', HAL', hv6, hb6⟩
           have HV6 := Lib.hid hv6
           have HB6 := Lib.hid (Below.to HB5.out hb6 HB5.out.size)
           have K6 := Lib.hid (HKS.out _ HB6.out)
           clear hv6 hb6))
    all_goals
      obtain ⟨rfl, rfl⟩ := HAG.out (by first | trivial | rfl) _ _ HAL'.out
      have HV57 := Lib.hid (HV53.out.below HB6.out)
      obtain ⟨a6, c6, rfl, -, -, -⟩ := HV6.out.open
      clear K4 K5 K6 KD HKS HTW HN1 HN2 HN3 HN4 HR1 HB4 HO4 HB5 HVR HAL' HAG dc0 dc1 dc2 dc3
      go_wp2_with fail
      refine (sameSpans_eq _ _ _ _ HV6.out HV57.out).mono ?_
      rintro e w7 ⟨rfl, hb7⟩
      have hb37 := Below.to HB6.out hb7 HB6.out.size
      have HB7' := Lib.hid (Below.to HB3.out hb37 HB3.out.size)
      have HV17 := Lib.hid (HV13.out.below hb37)
      have HV27 := Lib.hid (HV23.out.below hb37)
      have HXV : Hid (w7.cell? ⟨b5, o5 + ja * 2, none⟩ = some (.int .i64 s1) ∧ w7.cell? ⟨b5, o5 + ja * 2 + 1, none⟩ = some (.int .i64 s2)) := ⟨(hb37.cell (p := ⟨b5, o5 + ja * 2, none⟩) HS3.out).trans HXW.out.1, (hb37.cell (p := ⟨b5, o5 + ja * 2 + 1, none⟩) HS3.out).trans HXW.out.2⟩
      clear hb7 hb37 HV6 HV57 HB6 HXW HV13 HV23 HB3 HV53
      try clear HLL
      have y0 := HXV.out.1
      have y1 := HXV.out.2
      go_wp2_with fail
      refine (HYJ.out _).mono ?_
      rintro e w' ⟨rfl, rfl⟩
      go_wp2_with fail
      obtain ⟨W9, hW9⟩ : ∃ W9, W9 = (w7.alloc (.cells #[.int .i64 s1, .int .i64 s2] 44)).alloc (.cells #[.int .i64 (kc : Int), .int .i64 1, .int .i64 s1, .int .i64 s1] 30) := ⟨_, rfl⟩
      rw [← hW9]
      have hb39 : Below w7.heap.size w7 W9 := by rw [hW9]; exact ((Below.refl _ _).alloc (Nat.le_refl _) _).alloc (by simp) _
      have hsh : W9.heap[w7.heap.size + 1]? = some (.cells #[.int .i64 (kc : Int), .int .i64 1, .int .i64 s1, .int .i64 s1] 30) := by
        have h := World.alloc_heap_new (w7.alloc (.cells #[.int .i64 s1, .int .i64 s2] 44)) (.cells #[.int .i64 (kc : Int), .int .i64 1, .int .i64 s1, .int .i64 s1] 30)
        rw [World.size_alloc] at h
        rw [hW9]; exact h
      have hsp : W9.heap[w7.heap.size]? = some (.cells #[.int .i64 s1, .int .i64 s2] 44) := by
        rw [hW9]
        exact (Below.heap_alloc _ _ _ (by simp)).trans (World.alloc_heap_new w7 (.cells #[.int .i64 s1, .int .i64 s2] 44))
      have hsz : W9.heap.size = w7.heap.size + 2 := by rw [hW9]; simp
      obtain ⟨P9, hP9⟩ : ∃ P9, P9 = w7.heap.size + 1 := ⟨_, rfl⟩
      obtain ⟨PQ, hPQ⟩ : ∃ PQ, PQ = w7.heap.size := ⟨_, rfl⟩
      rw [← hP9, ← hPQ]
      have tlt : Hid (P9 < W9.heap.size) := by show _ < _; omega
      have plt : Hid (PQ < W9.heap.size) := by show _ < _; omega
      rw [← hP9] at hsh
      rw [← hPQ] at hsp
      have tc0 : W9.cell? ⟨P9, 0, none⟩ = some (.int .i64 (kc : Int)) := by simp [World.cell?, hsh]
      have tc1 : W9.cell? ⟨P9, 1, none⟩ = some (.int .i64 1) := by simp [World.cell?, hsh]
      have tc2 : W9.cell? ⟨P9, 2, none⟩ = some (.int .i64 s1) := by simp [World.cell?, hsh]
      have tc3 : W9.cell? ⟨P9, 3, none⟩ = some (.int .i64 s1) := by simp [World.cell?, hsh]
      have pz : W9.cell? ⟨PQ, 0, none⟩ = some (.int .i64 s1) := by simp [World.cell?, hsp]
      have HB9 := Lib.hid (Below.to HB7'.out hb39 HB7'.out.size)
      have HV19 := Lib.hid (HV17.out.below hb39)
      have HV29 := Lib.hid (HV27.out.below hb39)
      clear hW9 hP9 hPQ hsz hsh hsp hb39 y0 y1
      have HTW := Lib.hid (two_of ⟨(kc : Int), 1, s1, s1⟩ HV29.out)
      have HKS : Hid (∀ w', Below W9.heap.size W9 w' → w'.cell? ⟨P9, 0, none⟩ = some (.int .i64 (kc : Int)) ∧ w'.cell? ⟨P9, 1, none⟩ = some (.int .i64 1) ∧ w'.cell? ⟨P9, 2, none⟩ = some (.int .i64 s1) ∧ w'.cell? ⟨P9, 3, none⟩ = some (.int .i64 s1)) := fun w' hw => ⟨(hw.cell (p := ⟨P9, 0, none⟩) tlt.out).trans tc0, (hw.cell (p := ⟨P9, 1, none⟩) tlt.out).trans tc1, (hw.cell (p := ⟨P9, 2, none⟩) tlt.out).trans tc2, (hw.cell (p := ⟨P9, 3, none⟩) tlt.out).trans tc3⟩
      have KD : Hid (W9.drew.cell? ⟨P9, 0, none⟩ = some (.int .i64 (kc : Int)) ∧ W9.drew.cell? ⟨P9, 1, none⟩ = some (.int .i64 1) ∧ W9.drew.cell? ⟨P9, 2, none⟩ = some (.int .i64 s1) ∧ W9.drew.cell? ⟨P9, 3, none⟩ = some (.int .i64 s1)) := HKS.out _ ((Below.refl _ _).drew)
      have HN1 : Hid (0 + rs.length ≤ maxLen) := (by show _ ≤ _; unfold maxLen; omega)
      have HN2 : Hid ((0 + rs.length) * 32 ≤ 140737488355328) := (by show _ ≤ _; omega)
      have HN3 : Hid (rs.length + 1 ≤ maxLen) := (by show _ ≤ _; unfold maxLen; omega)
      have HN4 : Hid ((rs.length + 1) * 32 ≤ 140737488355328) := (by show _ ≤ _; omega)
      have HR1 : Hid (∀ u ∈ rtRow ⟨(kc : Int), 1, s1, s1⟩, u.oneCell' = true) := by intro c hc; simp [rtRow] at hc; rcases hc with rfl | rfl | rfl | rfl <;> rfl
      go_wp2_with fail
      go_region_held3 (fun w' => w'.cell? ⟨P9, 0, none⟩ = some (.int .i64 (kc : Int)) ∧ w'.cell? ⟨P9, 1, none⟩ = some (.int .i64 1) ∧ w'.cell? ⟨P9, 2, none⟩ = some (.int .i64 s1) ∧ w'.cell? ⟨P9, 3, none⟩ = some (.int .i64 s1))
        (first
          | exact KD.out
          | exact K6.out
          | exact K5.out
          | exact K4.out
          | exact HKS.out _ HTW.out.b1
          | exact HKS.out _ HTW.out.b2
          | exact HKS.out _ HTW.out.b3
          | exact HKS.out _ (((Below.refl _ _).alloc (Nat.le_refl _) _).drew)
          | exact HKS.out _ (Below.to HB4.out ((Below.refl _ _).alloc (Nat.le_refl _) _) HB4.out.size)
          | go_keep)
        (first
          | (refine step_append_rd (by rfl) _ _ 24 (by rfl) W9.heap.size 30 _ 4 32 Try.underlying24 infoRt rfl (by decide) (.slice (some ⟨W9.heap.size, 0, none⟩) 0 0) 0 [] (by rfl) HTW.out.a1 _ rs.length (rtCells rs) (by rfl) HTW.out.g1 (rtCells_one rs) HN1.out HN2.out HTW.out.b1.size ?_
             intro v3 w3 hv3 hg3
             have HB4 : Hid (Below W9.heap.size W9 w3) := below_append HTW.out.b1 HTW.out.a1 hg3 HTW.out.b1.size
             have HO4 : Hid (w3.ownsRow W9.heap.size 30 4 v3 rs.length (rtCells rs)) := by (have h := hv3; rw [Nat.zero_add, List.nil_append] at h; exact h)
             have K4 := Lib.hid (HKS.out _ HB4.out)
             clear hv3 hg3)
          | (refine step_append_rd (by rfl) _ _ 24 (by rfl) W9.heap.size 30 _ 4 32 Try.underlying24 infoRt rfl (by decide) (.slice (some ⟨W9.heap.size, 0, none⟩) 0 0) 0 [] (by rfl) HTW.out.a2 _ rs.length (rtCells rs) (by rfl) HTW.out.g2 (rtCells_one rs) HN1.out HN2.out HTW.out.b2.size ?_
             intro v3 w3 hv3 hg3
             have HB4 : Hid (Below W9.heap.size W9 w3) := below_append HTW.out.b2 HTW.out.a2 hg3 HTW.out.b2.size
             have HO4 : Hid (w3.ownsRow W9.heap.size 30 4 v3 rs.length (rtCells rs)) := by (have h := hv3; rw [Nat.zero_add, List.nil_append] at h; exact h)
             have K4 := Lib.hid (HKS.out _ HB4.out)
             have HLL := Lib.hid (Rd.grown HTW.out.l2 hg3 (by intro k hk hh; simp [Value.ownBlock] at hk hh; omega))
             clear hv3 hg3)
          | (refine step_append_rd (by rfl) _ _ 24 (by rfl) W9.heap.size 30 _ 4 32 Try.underlying24 infoRt rfl (by decide) (.slice (some ⟨W9.heap.size + 1, 0, none⟩) 0 0) 0 [] (by rfl) HTW.out.a3 _ rs.length (rtCells rs) (by rfl) HTW.out.g3 (rtCells_one rs) HN1.out HN2.out HTW.out.b3.size ?_
             intro v3 w3 hv3 hg3
             have HB4 : Hid (Below W9.heap.size W9 w3) := below_append HTW.out.b3 HTW.out.a3 hg3 HTW.out.b3.size
             have HO4 : Hid (w3.ownsRow W9.heap.size 30 4 v3 rs.length (rtCells rs)) := by (have h := hv3; rw [Nat.zero_add, List.nil_append] at h; exact h)
             have K4 := Lib.hid (HKS.out _ HB4.out)
             have HLL := Lib.hid (Rd.grown HTW.out.l3 hg3 (by intro k hk hh; simp [Value.ownBlock] at hk hh; omega))
             clear hv3 hg3)
          | (refine step_append_rd (by rfl) _ _ 24 (by rfl) W9.heap.size 30 _ 4 32 Try.underlying24 infoRt rfl (by decide) v3 rs.length (rtCells rs) (by rfl) (owns_below HO4.out ((Below.refl _ _).alloc (Nat.le_refl _) _)) _ 1 (rtRow ⟨(kc : Int), 1, s1, s1⟩) (by rfl) (HTW.out.l1 w3) HR1.out HN3.out HN4.out (Below.to HB4.out ((Below.refl _ _).alloc (Nat.le_refl _) _) HB4.out.size).size ?_
             intro v4 w4 hv4 hg4
             have HB5 : Hid (Below W9.heap.size W9 w4) := below_append (Below.to HB4.out ((Below.refl _ _).alloc (Nat.le_refl _) _) HB4.out.size) (owns_below HO4.out ((Below.refl _ _).alloc (Nat.le_refl _) _)) hg4 (Below.to HB4.out ((Below.refl _ _).alloc (Nat.le_refl _) _) HB4.out.size).size
             have HVR : Hid (IsRts w4 v4 (rs ++ [⟨(kc : Int), 1, s1, s1⟩])) := by
               refine IsRts.of_owns (n := rs.length + 1) (B := W9.heap.size) (e := 30) ?_
               rw [rtCells_append, rtCells_single]
               exact hv4
             have K5 := Lib.hid (HKS.out _ HB5.out)
             clear hv4 hg4)
          | (refine step_append_rd (by rfl) _ _ 24 (by rfl) W9.heap.size 30 _ 4 32 Try.underlying24 infoRt rfl (by decide) v3 rs.length (rtCells rs) (by rfl) HO4.out _ 1 (rtRow ⟨(kc : Int), 1, s1, s1⟩) (by rfl) HLL.out HR1.out HN3.out HN4.out HB4.out.size ?_
             intro v4 w4 hv4 hg4
             have HB5 : Hid (Below W9.heap.size W9 w4) := below_append HB4.out HO4.out hg4 HB4.out.size
             have HVR : Hid (IsRts w4 v4 (rs ++ [⟨(kc : Int), 1, s1, s1⟩])) := by
               refine IsRts.of_owns (n := rs.length + 1) (B := W9.heap.size) (e := 30) ?_
               rw [rtCells_append, rtCells_single]
               exact hv4
             have K5 := Lib.hid (HKS.out _ HB5.out)
             clear hv4 hg4)
          | (go_at_call 18
             refine (allowed_any (rs ++ [⟨(kc : Int), 1, s1, s1⟩]) cs _ _ D _ HVR.out (HV19.out.below HB5.out) (by simp; omega) (by omega) HF2.out HG.out.1.ok hb0 hb1).mono ?_
             rintro e w5 ⟨v6, nv', rfl, out', HAL', hv6, hb6⟩
             have HV6 := Lib.hid hv6
             have HB6 := Lib.hid (Below.to HB5.out hb6 HB5.out.size)
             have K6 := Lib.hid (HKS.out _ HB6.out)
             clear hv6 hb6))
      all_goals
        have HHD := Lib.hid (HKP.out _ _ HAL'.out)
        have z9 := (HB6.out.cell (p := ⟨PQ, 0, none⟩) plt.out).trans pz
        have HB7 := Lib.hid (Below.to HB9.out HB6.out HB9.out.size)
        have HL := Lib.hid lives_any
        obtain ⟨a6, c6, rfl, -, -, -⟩ := HV6.out.open
        go_wp2_with fail
        refine (hasDay_any _ _ _ _ _ HV6.out).mono ?_
        rintro e w8 ⟨rfl, hb8⟩
        rw [HHD.out]
        have HB8 := Lib.hid (Below.to HB7.out hb8 HB7.out.size)
        clear hb8 z9
        go_wp2_with fail
        refine (HL.out _).mono ?_
        rintro e w99 ⟨rfl, hb99⟩
        have HB99 := Lib.hid (Below.to HB8.out hb99 HB8.out.size)
        clear hb99
        go_wp2_with fail
        go_ret
        exact ⟨rfl, HB99.out⟩

end Go.Proofs.Ytbiedadgejgnoaa
