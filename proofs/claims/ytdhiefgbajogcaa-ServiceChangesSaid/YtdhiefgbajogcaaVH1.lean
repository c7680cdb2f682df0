/-
  The law ServiceChanges: its walk.
-/
import Derived.Test.YtdhiefgbajogcaaVO1
import Derived.Test.YtdhiefgbajogcaaSvK
namespace Go.Proofs.Ytdhiefgbajogcaa
open Go.RowKit

theorem IsAts.sl4 {w : World} {v : Value} {l : List At} (h : IsAts w v l) : ∃ a n c, v = .slice a n c := by
  obtain ⟨a, c, rfl, -⟩ := h.open
  exact ⟨a, _, c, rfl⟩
def BlkAt (W : World) (G : Nat) (cs : Array Value) (T : Nat) : Prop := W.heap[G]? = some (.cells cs T) ∧ G < W.heap.size
theorem BlkAt.below {W W' : World} {G T : Nat} {cs : Array Value} (h : BlkAt W G cs T) (hb : Below W.heap.size W W') : BlkAt W' G cs T := ⟨(hb.block _ h.2).trans h.1, Nat.lt_of_lt_of_le h.2 hb.size⟩
theorem BlkAt.new (W : World) (cs : Array Value) (T : Nat) : BlkAt (W.alloc (.cells cs T)) W.heap.size cs T := ⟨heap_alloc_new _ _, by simp⟩
theorem BlkAt.al {W : World} {G T : Nat} {cs : Array Value} (h : BlkAt W G cs T) (o : Obj) : BlkAt (W.alloc o) G cs T := h.below ((Below.refl _ _).alloc (Nat.le_refl _) o)

set_option maxHeartbeats 4000000 in
set_option maxRecDepth 100000 in
theorem serviceChanges_any (c l : List Int) (v u : Value) (en pa : Int) (a : At) (q : Value) (i : Int) (r : Ret) (w : World) (hx : IsInts w v c) (hc : ∀ x ∈ c, I64 x) (hy : IsInts w u l) (hl : ∀ x ∈ l, I64 x) (hq : IsRts w q a.own) :
    Calls Try.prog 4 #[.agg #[v, u, .int .i64 en, .int .i64 pa], .agg #[.int .i64 a.ent, .int .i64 a.par, .int .i64 a.car, .int .i64 a.sent, q], .int .i64 i, .agg (litRt r)] w fun e w' => e = .returned (.bool true) ∧ Below w.heap.size w w' := by
  obtain ⟨ae, ap, ac, an, ow⟩ := a
  obtain ⟨r0, r1, r2, r3⟩ := r
  simp only at hq ⊢
  rw [show litRt ⟨r0, r1, r2, r3⟩ = #[.int .i64 r0, .int .i64 r1, .int .i64 r2, .int .i64 r3] from rfl]
  obtain ⟨a1, c1, rfl, -, -, -⟩ := hx.open
  obtain ⟨a2, c2, rfl, -, -, -⟩ := hy.open
  obtain ⟨qa, qc, rfl⟩ := hq.sl
  have hqm : ow.length ≤ maxLen := hq.open.choose_spec.choose_spec.2.1
  unfold maxLen at hqm
  obtain ⟨P, hP⟩ : ∃ P, P = w.heap.size := ⟨_, rfl⟩
  obtain ⟨W0, hW0⟩ : ∃ W0, W0 = ((w.alloc (.cells #[.slice a1 c.length c1, .slice a2 l.length c2, .int .i64 en, .int .i64 pa] 35)).alloc (.cells #[.int .i64 ae, .int .i64 ap, .int .i64 ac, .int .i64 an, .slice qa ow.length qc] 29)).alloc (.cells #[.int .i64 r0, .int .i64 r1, .int .i64 r2, .int .i64 r3] 37) := ⟨_, rfl⟩
  have FP : Hid (BlkAt W0 P #[.slice a1 c.length c1, .slice a2 l.length c2, .int .i64 en, .int .i64 pa] 35) := by show BlkAt _ _ _ _; rw [hW0, hP]; exact ((BlkAt.new _ _ _).al _).al _
  have FA : Hid (BlkAt W0 (P + 1) #[.int .i64 ae, .int .i64 ap, .int .i64 ac, .int .i64 an, .slice qa ow.length qc] 29) := by
    show BlkAt _ _ _ _
    have h := BlkAt.new (w.alloc (.cells #[.slice a1 c.length c1, .slice a2 l.length c2, .int .i64 en, .int .i64 pa] 35)) #[.int .i64 ae, .int .i64 ap, .int .i64 ac, .int .i64 an, .slice qa ow.length qc] 29
    rw [World.size_alloc] at h
    rw [hW0, hP]
    exact h.al _
  have FR : Hid (BlkAt W0 (P + 1 + 1) #[.int .i64 r0, .int .i64 r1, .int .i64 r2, .int .i64 r3] 37) := by
    show BlkAt _ _ _ _
    have h := BlkAt.new ((w.alloc (.cells #[.slice a1 c.length c1, .slice a2 l.length c2, .int .i64 en, .int .i64 pa] 35)).alloc (.cells #[.int .i64 ae, .int .i64 ap, .int .i64 ac, .int .i64 an, .slice qa ow.length qc] 29)) #[.int .i64 r0, .int .i64 r1, .int .i64 r2, .int .i64 r3] 37
    rw [World.size_alloc, World.size_alloc] at h
    rw [hW0, hP]
    exact h
  have hb0 : Below w.heap.size w W0 := by rw [hW0]; exact (((Below.refl _ _).alloc (Nat.le_refl _) _).alloc (by simp) _).alloc (by simp; omega) _
  have HB0 := Lib.hid hb0
  have HMA := Lib.hid (made21 c l _ _ en pa W0 (hx.below hb0) hc (hy.below hb0) hl)
  have HQ := Lib.hid (hq.below hb0)
  have HP := Lib.hid hP
  have HW0 := Lib.hid hW0
  clear hx hc hy hl hq hW0 hP hb0
  obtain ⟨z0, z1, z2, z3⟩ := four_of FP.out.1
  go_enter Try.func4, Try.ntmps4
  go_wp2_with fail
  rw [← HW0.out, ← HP.out]
  refine HMA.out.mono ?_
  rintro e w1 ⟨v1, v2, rfl, cs, ats, HG, HR, hv1, hv2, b1⟩
  have HV1 := Lib.hid hv1
  have HV2 := Lib.hid hv2
  have E1 := Lib.hid b1
  have FA := Lib.hid (FA.out.below b1)
  have FR := Lib.hid (FR.out.below b1)
  have HQ := Lib.hid (HQ.out.below b1)
  obtain ⟨a3, c3, rfl, -, -, -⟩ := hv1.open
  obtain ⟨a4, c4, rfl, -, -⟩ := hv2.open
  clear hv1 hv2 b1 HMA z0 z1 z2 z3
  obtain ⟨⟨y0, y1, y2, y3, y4⟩, -⟩ := five_of FA.out.1
  by_cases h40 : 40 < ow.length
  · have h40I : (40 : Int) < (ow.length : Int) := by omega
    go_wp2_with fail
    refine (lives21 _).mono ?_
    rintro e w7 ⟨rfl, b7⟩
    have E7 := Lib.hid (Below.to HB0.out (Below.to E1.out b7 E1.out.size) HB0.out.size)
    clear b7
    go_wp2_with fail
    go_ret
    exact ⟨rfl, E7.out⟩
  have h40I : ¬ (40 : Int) < (ow.length : Int) := by omega
  have hl8 := HR.out.2
  obtain ⟨CK, hCK⟩ : ∃ CK, chkA cs.length ⟨ae, ap, ac, an, ow⟩ = CK := ⟨_, rfl⟩
  obtain ⟨BL, hBL⟩ : ∃ BL, beginL cs.length ats ⟨ae, ap, ac, an, ow⟩ = BL := ⟨_, rfl⟩
  obtain ⟨RE, hRE⟩ : ∃ RE, retE cs.length ats i ⟨r0, r1, r2, r3⟩ = RE := ⟨_, rfl⟩
  obtain ⟨RL, hRL⟩ : ∃ RL, retL cs.length ats i ⟨r0, r1, r2, r3⟩ = RL := ⟨_, rfl⟩
  obtain ⟨RE2, hRE2⟩ : ∃ RE, retE cs.length BL (ats.length : Int) ⟨r0, r1, r2, r3⟩ = RE := ⟨_, rfl⟩
  obtain ⟨RL2, hRL2⟩ : ∃ RL, retL cs.length BL (ats.length : Int) ⟨r0, r1, r2, r3⟩ = RL := ⟨_, rfl⟩
  have HOW : Hid (∀ x ∈ ats, x.own.length ≤ 1000000) := fun x hx => by have := (HR.out.1.ok x hx).rets.2; omega
  have HBO : Hid (BL.length ≤ 1000 ∧ ∀ x ∈ BL, x.own.length ≤ 1000000) := by
    show _ ∧ _
    rw [← hBL]
    unfold beginL
    split
    · refine ⟨by simp; omega, fun x hx => ?_⟩
      rcases List.mem_append.1 hx with g | g
      · exact HOW.out x g
      · rw [List.mem_singleton.1 g]; simp only; omega
    · exact ⟨by simp, fun x hx => by cases hx⟩
  have K1 : Hid (∀ W v u y, IsAts W v ats → IsRts W u ow → IsSps W y cs → Calls Try.prog 18 #[v, .agg #[.int .i64 ae, .int .i64 ap, .int .i64 ac, .int .i64 an, u], y] W fun e w' => ∃ v', e = .returned (.tuple #[v', .int .i64 CK]) ∧ IsAts w' v' BL ∧ Below W.heap.size W w') := fun W v u y h1 h2 h3 => by
    have h := svcBegin ats ⟨ae, ap, ac, an, ow⟩ cs v u y W h1 h2 h3 (by omega) HOW.out (by simp only; omega)
    rw [hCK, hBL] at h
    exact h
  have K2 : Hid (∀ W v u y, IsAts W v ats → IsRts W u ow → IsSps W y cs → Calls Try.prog 19 #[v, .agg #[.int .i64 ae, .int .i64 ap, .int .i64 ac, .int .i64 an, u], y] W fun e w' => ∃ v', e = .returned (.tuple #[v', .int .i64 CK]) ∧ IsAts w' v' BL ∧ Below W.heap.size W w') := fun W v u y h1 h2 h3 => by
    have h := refBegin ats ⟨ae, ap, ac, an, ow⟩ cs v u y W h1 h2 h3 (by omega) HOW.out (by simp only; omega)
    rw [hCK, hBL] at h
    exact h
  have K3 : Hid (∀ W v y, IsAts W v ats → IsSps W y cs → Calls Try.prog 20 #[v, .int .i64 i, .agg #[.int .i64 r0, .int .i64 r1, .int .i64 r2, .int .i64 r3], y] W fun e w' => ∃ v', e = .returned (.tuple #[v', .int .i64 RE]) ∧ IsAts w' v' RL ∧ Below W.heap.size W w') := fun W v y h1 h3 => by
    have h := svcReturn ats i ⟨r0, r1, r2, r3⟩ cs v y W h1 h3 (by omega) HOW.out
    rw [hRE, hRL] at h
    exact h
  have K4 : Hid (∀ W v y, IsAts W v ats → IsSps W y cs → Calls Try.prog 21 #[v, .int .i64 i, .agg #[.int .i64 r0, .int .i64 r1, .int .i64 r2, .int .i64 r3], y] W fun e w' => ∃ v', e = .returned (.tuple #[v', .int .i64 RE]) ∧ IsAts w' v' RL ∧ Below W.heap.size W w') := fun W v y h1 h3 => by
    have h := refReturn ats i ⟨r0, r1, r2, r3⟩ cs v y W h1 h3 (by omega) HOW.out
    rw [hRE, hRL] at h
    exact h
  have K5 : Hid (∀ W v y, IsAts W v BL → IsSps W y cs → Calls Try.prog 20 #[v, .int .i64 ats.length, .agg #[.int .i64 r0, .int .i64 r1, .int .i64 r2, .int .i64 r3], y] W fun e w' => ∃ v', e = .returned (.tuple #[v', .int .i64 RE2]) ∧ IsAts w' v' RL2 ∧ Below W.heap.size W w') := fun W v y h1 h3 => by
    have h := svcReturn BL ats.length ⟨r0, r1, r2, r3⟩ cs v y W h1 h3 HBO.out.1 HBO.out.2
    rw [hRE2, hRL2] at h
    exact h
  have K6 : Hid (∀ W v y, IsAts W v BL → IsSps W y cs → Calls Try.prog 21 #[v, .int .i64 ats.length, .agg #[.int .i64 r0, .int .i64 r1, .int .i64 r2, .int .i64 r3], y] W fun e w' => ∃ v', e = .returned (.tuple #[v', .int .i64 RE2]) ∧ IsAts w' v' RL2 ∧ Below W.heap.size W w') := fun W v y h1 h3 => by
    have h := refReturn BL ats.length ⟨r0, r1, r2, r3⟩ cs v y W h1 h3 HBO.out.1 HBO.out.2
    rw [hRE2, hRL2] at h
    exact h
  clear hCK hBL hRE hRL hRE2 hRL2 HOW HBO h40
  go_wp2_with fail
  refine (K1.out _ _ _ _ HV2.out HQ.out HV1.out).mono ?_
  rintro e w2 ⟨v5, rfl, hv5, b2⟩
  have V5 := Lib.hid hv5
  have HV1 := Lib.hid (HV1.out.below b2)
  have HV2 := Lib.hid (HV2.out.below b2)
  have HQ := Lib.hid (HQ.out.below b2)
  have FA := Lib.hid (FA.out.below b2)
  have FR := Lib.hid (FR.out.below b2)
  have E2 := Lib.hid (Below.to E1.out b2 E1.out.size)
  obtain ⟨a5, n5, c5, rfl⟩ := hv5.sl4
  clear hv5 b2 y0 y1 y2 y3 y4
  obtain ⟨⟨y0, y1, y2, y3, y4⟩, -⟩ := five_of FA.out.1
  go_wp2_with fail
  refine (K2.out _ _ _ _ HV2.out HQ.out HV1.out).mono ?_
  rintro e w3 ⟨v6, rfl, hv6, b3⟩
  have V5 := Lib.hid (V5.out.below b3)
  have V6 := Lib.hid hv6
  have HV1 := Lib.hid (HV1.out.below b3)
  have HV2 := Lib.hid (HV2.out.below b3)
  have FR := Lib.hid (FR.out.below b3)
  have E3 := Lib.hid (Below.to E2.out b3 E2.out.size)
  obtain ⟨a6, n6, c6, rfl⟩ := hv6.sl4
  clear hv6 b3 y0 y1 y2 y3 y4
  obtain ⟨y0, y1, y2, y3⟩ := four_of FR.out.1
  go_wp2_with fail
  refine (K3.out _ _ _ HV2.out HV1.out).mono ?_
  rintro e w4 ⟨v7, rfl, hv7, b4⟩
  have V5 := Lib.hid (V5.out.below b4)
  have V6 := Lib.hid (V6.out.below b4)
  have V7 := Lib.hid hv7
  have HV1 := Lib.hid (HV1.out.below b4)
  have HV2 := Lib.hid (HV2.out.below b4)
  have FR := Lib.hid (FR.out.below b4)
  have E4 := Lib.hid (Below.to E3.out b4 E3.out.size)
  obtain ⟨a7, n7, c7, rfl⟩ := hv7.sl4
  clear hv7 b4 y0 y1 y2 y3
  obtain ⟨y0, y1, y2, y3⟩ := four_of FR.out.1
  go_wp2_with fail
  refine (K4.out _ _ _ HV2.out HV1.out).mono ?_
  rintro e w5 ⟨v8, rfl, hv8, b5⟩
  have V5 := Lib.hid (V5.out.below b5)
  have V6 := Lib.hid (V6.out.below b5)
  have V7 := Lib.hid (V7.out.below b5)
  have V8 := Lib.hid hv8
  have HV1 := Lib.hid (HV1.out.below b5)
  have FR := Lib.hid (FR.out.below b5)
  have E5 := Lib.hid (Below.to E4.out b5 E4.out.size)
  obtain ⟨a8, n8, c8, rfl⟩ := hv8.sl4
  clear hv8 b5 y0 y1 y2 y3
  by_cases hck : CK = 0
  · have hckb : (CK == 0) = true := by simpa using hck
    subst hck
    obtain ⟨y0, y1, y2, y3⟩ := four_of FR.out.1
    go_wp2_with fail
    refine (K5.out _ _ _ V5.out HV1.out).mono ?_
    rintro e w6 ⟨v9, rfl, hv9, b6⟩
    have V5 := Lib.hid (V5.out.below b6)
    have V6 := Lib.hid (V6.out.below b6)
    have V7 := Lib.hid (V7.out.below b6)
    have V8 := Lib.hid (V8.out.below b6)
    have V9 := Lib.hid hv9
    have HV1 := Lib.hid (HV1.out.below b6)
    have FR := Lib.hid (FR.out.below b6)
    have E6 := Lib.hid (Below.to E5.out b6 E5.out.size)
    obtain ⟨a9, n9, c9, rfl⟩ := hv9.sl4
    clear hv9 b6 y0 y1 y2 y3
    obtain ⟨y0, y1, y2, y3⟩ := four_of FR.out.1
    go_wp2_with fail
    refine (K6.out _ _ _ V6.out HV1.out).mono ?_
    rintro e w7 ⟨v10, rfl, hv10, b7⟩
    have V5 := Lib.hid (V5.out.below b7)
    have V6 := Lib.hid (V6.out.below b7)
    have V7 := Lib.hid (V7.out.below b7)
    have V8 := Lib.hid (V8.out.below b7)
    have V9 := Lib.hid (V9.out.below b7)
    have V10 := Lib.hid hv10
    have E7 := Lib.hid (Below.to E6.out b7 E6.out.size)
    obtain ⟨a10, n10, c10, rfl⟩ := hv10.sl4
    clear hv10 b7 y0 y1 y2 y3
    go_wp2_with fail
    refine (sameAts RL2 _ _ _ V9.out V10.out).mono ?_
    rintro e w8 ⟨rfl, b8⟩
    have V5 := Lib.hid (V5.out.below b8)
    have V6 := Lib.hid (V6.out.below b8)
    have V7 := Lib.hid (V7.out.below b8)
    have V8 := Lib.hid (V8.out.below b8)
    have E8 := Lib.hid (Below.to E7.out b8 E7.out.size)
    clear b8
    go_wp2_with fail
    refine (sameAts BL _ _ _ V5.out V6.out).mono ?_
    rintro e w9 ⟨rfl, b9⟩
    have V7 := Lib.hid (V7.out.below b9)
    have V8 := Lib.hid (V8.out.below b9)
    have E9 := Lib.hid (Below.to E8.out b9 E8.out.size)
    clear b9
    go_wp2_with fail
    refine (sameAts RL _ _ _ V7.out V8.out).mono ?_
    rintro e w10 ⟨rfl, b10⟩
    have E10 := Lib.hid (Below.to E9.out b10 E9.out.size)
    clear b10
    go_wp2_with fail
    refine (lives21 _).mono ?_
    rintro e w11 ⟨rfl, b11⟩
    have E11 := Lib.hid (Below.to HB0.out (Below.to E10.out b11 E10.out.size) HB0.out.size)
    clear b11
    go_wp2_with fail
    go_ret
    exact ⟨rfl, E11.out⟩
  · have hckb : (CK == 0) = false := by simpa using hck
    clear hck
    go_wp2_with fail
    refine (sameAts BL _ _ _ V5.out V6.out).mono ?_
    rintro e w9 ⟨rfl, b9⟩
    have V7 := Lib.hid (V7.out.below b9)
    have V8 := Lib.hid (V8.out.below b9)
    have E9 := Lib.hid (Below.to E5.out b9 E5.out.size)
    clear b9
    go_wp2_with fail
    refine (sameAts RL _ _ _ V7.out V8.out).mono ?_
    rintro e w10 ⟨rfl, b10⟩
    have E10 := Lib.hid (Below.to E9.out b10 E9.out.size)
    clear b10
    go_wp2_with fail
    refine (lives21 _).mono ?_
    rintro e w11 ⟨rfl, b11⟩
    have E11 := Lib.hid (Below.to HB0.out (Below.to E10.out b11 E10.out.size) HB0.out.size)
    clear b11
    go_wp2_with fail
    go_ret
    exact ⟨rfl, E11.out⟩

end Go.Proofs.Ytdhiefgbajogcaa
