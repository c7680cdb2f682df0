/-
  Return: the program's and the reference's.
-/
import Derived.Test.YtdhiefgbajogcaaSvG
import Derived.Deep.RegionWith
namespace Go.Proofs.Ytdhiefgbajogcaa
open Go.RowKit

def retE (n : Nat) (l : List At) (i : Int) (r : Ret) : Int := if i < 0 then 3 else match l[i.toNat]? with
  | none => 3
  | some a => chkF n (a.own ++ [r])
def retL (n : Nat) (l : List At) (i : Int) (r : Ret) : List At := if i < 0 then [] else match l[i.toNat]? with
  | none => []
  | some a => if chkF n (a.own ++ [r]) = 0 then l.set i.toNat { a with own := a.own ++ [r] } else []
theorem ret_out {n : Nat} {l : List At} {i : Int} {r : Ret} (h : i < 0 ∨ (l.length : Int) ≤ i) : retE n l i r = 3 ∧ retL n l i r = [] := by
  unfold retE retL
  by_cases h0 : i < 0
  · rw [if_pos h0, if_pos h0]; exact ⟨rfl, rfl⟩
  · rw [if_neg h0, if_neg h0, List.getElem?_eq_none (by omega)]; exact ⟨rfl, rfl⟩
theorem ret_in {n : Nat} {l : List At} {k : Nat} {r : Ret} (hk : k < l.length) : retE n l (k : Int) r = chkF n (l[k].own ++ [r]) ∧ retL n l (k : Int) r = if chkF n (l[k].own ++ [r]) = 0 then l.set k { l[k] with own := l[k].own ++ [r] } else [] := by
  unfold retE retL
  have e : ((k : Int)).toNat = k := by omega
  rw [if_neg (by omega), if_neg (by omega), e, List.getElem?_eq_getElem hk]
  exact ⟨rfl, rfl⟩
theorem retLit (W : World) (r : Ret) : Rd (W.alloc (.cells #[.int .i64 r.car, .int .i64 r.kind, .int .i64 r.fr, .int .i64 r.un] 37)) (.slice (some ⟨W.heap.size, 0, none⟩) 1 1) 4 1 (rtRow r) := Rd.lit W (litRt r) 37 4 1 rfl (by unfold maxLen; omega)

theorem four_of {W : World} {B T : Nat} {a0 a1 a2 a3 : Value} (h : W.heap[B]? = some (.cells #[a0, a1, a2, a3] T)) :
    (W.cell? ⟨B, 0, none⟩ = some a0 ∧ W.cell? ⟨B, 1, none⟩ = some a1 ∧ W.cell? ⟨B, 2, none⟩ = some a2 ∧ W.cell? ⟨B, 3, none⟩ = some a3) := by
  refine ⟨?_, ?_, ?_, ?_⟩
  · simp [World.cell?, h]
  · simp [World.cell?, h]
  · simp [World.cell?, h]
  · simp [World.cell?, h]

set_option maxHeartbeats 2000000 in
set_option maxRecDepth 100000 in
theorem svcReturn (l : List At) (i : Int) (r : Ret) (cs : List (Int × Int)) (v y : Value) (w : World) (hx : IsAts w v l) (hy : IsSps w y cs) (hl : l.length ≤ 1000) (ho : ∀ x ∈ l, x.own.length ≤ 1000000) :
    Calls Try.prog 20 #[v, .int .i64 i, .agg (litRt r), y] w fun e w' => ∃ v', e = .returned (.tuple #[v', .int .i64 (retE cs.length l i r)]) ∧ IsAts w' v' (retL cs.length l i r) ∧ Below w.heap.size w w' := by
  obtain ⟨rc, rk, rf, ru⟩ := r
  show Calls Try.prog 20 #[v, .int .i64 i, .agg #[.int .i64 rc, .int .i64 rk, .int .i64 rf, .int .i64 ru], y] w _
  obtain ⟨P, hP⟩ : ∃ P, P = w.heap.size := ⟨_, rfl⟩
  obtain ⟨W0, hW0⟩ : ∃ W0, W0 = w.alloc (.cells #[.int .i64 rc, .int .i64 rk, .int .i64 rf, .int .i64 ru] 37) := ⟨_, rfl⟩
  have hb0 : Below w.heap.size w W0 := by rw [hW0]; exact (Below.refl _ _).alloc (Nat.le_refl _) _
  have hz0 : P < W0.heap.size := by rw [hW0, hP]; simp
  have hA : W0.heap[P]? = some (.cells #[.int .i64 rc, .int .i64 rk, .int .i64 rf, .int .i64 ru] 37) := by rw [hW0, hP]; exact heap_alloc_new w _
  have HX := Lib.hid hx
  have HY := Lib.hid hy
  have HB0 := Lib.hid hb0
  have HHO := Lib.hid ho
  have HZ0 : Hid (P < W0.heap.size) := hz0
  have HA := Lib.hid hA
  obtain ⟨v0, vc, rfl, hlm, -, -⟩ := hx.open
  unfold maxLen at hlm
  obtain ⟨ya, yc, rfl, -, -, -⟩ := hy.open
  have HPS := Lib.hid hP
  have HWE := Lib.hid hW0
  clear hy ho hW0 hA hz0 hP hx
  by_cases hin : i < 0 ∨ (l.length : Int) ≤ i
  · obtain ⟨he, hr⟩ := ret_out (n := cs.length) (r := ⟨rc, rk, rf, ru⟩) hin
    rw [he, hr]
    have hb0' := HB0.out
    rw [HWE.out] at hb0'
    have HB9 := Lib.hid hb0'
    have hparts : i < 0 ∨ (¬ i < 0 ∧ (l.length : Int) ≤ i) := by omega
    clear hin he hr hb0' hb0
    rcases hparts with h | ⟨h, h'⟩
    all_goals
      go_enter Try.func20, Try.ntmps20
      go_wp2_with fail
      go_ret2
      exact ⟨_, rfl, IsAts.nil _ _ _, HB9.out⟩
  obtain ⟨k, rfl⟩ : ∃ k : Nat, i = (k : Int) := ⟨i.toNat, by omega⟩
  have hk : k < l.length := by omega
  obtain ⟨he, hr⟩ := ret_in (n := cs.length) (r := ⟨rc, rk, rf, ru⟩) hk
  rw [he, hr]
  obtain ⟨CK, hCK⟩ : ∃ CK, chkF cs.length (l[k].own ++ [⟨rc, rk, rf, ru⟩]) = CK := ⟨_, rfl⟩
  rw [hCK]
  have HCK := Lib.hid hCK
  have hkl : (k : Int) < (l.length : Int) := by omega
  have hk0 : ¬ (k : Int) < 0 := by omega
  have hkl' : ¬ (l.length : Int) ≤ (k : Int) := by omega
  have HCL := Lib.hid (svcClone l _ W0 (HX.out.below hb0) (by omega) HHO.out)
  have hown := HHO.out l[k] (List.getElem_mem hk)
  clear hin he hr hCK hb0
  go_enter Try.func20, Try.ntmps20
  go_wp2_with fail
  rw [← HWE.out, ← HPS.out]
  refine HCL.out.mono ?_
  rintro e w1 ⟨v1, us, rfl, hO, hb1⟩
  obtain ⟨g, cap, rfl, hgB, hgs, hcap⟩ := owns_some hO.row (by omega)
  have hA1 : w1.heap[P]? = some (.cells #[.int .i64 rc, .int .i64 rk, .int .i64 rf, .int .i64 ru] 37) := (hb1.block _ HZ0.out).trans HA.out
  obtain ⟨p0, p1, p2, p3⟩ := four_of hA1
  have HBT := Lib.hid (Below.to HB0.out hb1 HB0.out.size)
  have hku : k < us.length := by rw [hO.len]; exact hk
  obtain ⟨uk, huk⟩ : ∃ uk, us[k] = uk := ⟨_, rfl⟩
  have hOD : OwnAts (w1.alloc (.cells #[.int .i64 rc, .int .i64 rk, .int .i64 rf, .int .i64 ru] 37)).drew W0.heap.size 29 37 (.slice (some ⟨g, 0, none⟩) l.length cap) l us l.length := hO.below (((Below.refl _ _).alloc (Nat.le_refl _) _).drew)
  have d4 : w1.cell? ⟨g, k * 5 + 4, none⟩ = some uk := by
    rw [hO.row.cellAt _ (by omega), atCells_get l us hO.len k 4 hk (by omega), huk]; rfl
  have howp := hOD.own k hk hku hk
  rw [huk] at howp
  have HOWP := Lib.hid howp
  obtain ⟨ua, uc, rfl, -, -⟩ := owns_slice howp
  have HS1 : Hid (W0.heap.size ≤ (w1.alloc (.cells #[.int .i64 rc, .int .i64 rk, .int .i64 rf, .int .i64 ru] 37)).drew.heap.size) := by show _ ≤ _; have := hb1.size; simp; omega
  have HLX : Hid (Rd (w1.alloc (.cells #[.int .i64 rc, .int .i64 rk, .int .i64 rf, .int .i64 ru] 37)).drew (.slice (some ⟨w1.heap.size, 0, none⟩) 1 1) 4 1 (rtRow ⟨rc, rk, rf, ru⟩)) := (retLit w1 ⟨rc, rk, rf, ru⟩).below ((Below.refl _ _).drew)
  have HN1 : Hid (l[k].own.length + 1 ≤ maxLen) := (by show _ ≤ _; unfold maxLen; omega)
  have HN2 : Hid ((l[k].own.length + 1) * 32 ≤ 140737488355328) := (by show _ ≤ _; omega)
  have HR1 : Hid (∀ u ∈ rtRow (⟨rc, rk, rf, ru⟩ : Ret), u.oneCell' = true) := by intro c hc; simp [rtRow] at hc; rcases hc with rfl | rfl | rfl | rfl <;> rfl
  have HUPD : Hid (∀ v2 w2, w2.ownsRow W0.heap.size 37 4 v2 (l[k].own.length + 1) (rtCells l[k].own ++ rtRow ⟨rc, rk, rf, ru⟩) → (w1.alloc (.cells #[.int .i64 rc, .int .i64 rk, .int .i64 rf, .int .i64 ru] 37)).drew.grownBy w2 (Value.slice ua l[k].own.length uc).ownBlock →
      (∃ x, w2.cell? ⟨g, k * 5 + 4, none⟩ = some x) ∧ w2.frozen? ⟨g, k * 5 + 4, none⟩ = false ∧ (w2.setCell ⟨g, k * 5 + 4, none⟩ v2).cell? ⟨g, k * 5 + 4, none⟩ = some v2 ∧
      IsRts (w2.setCell ⟨g, k * 5 + 4, none⟩ v2) v2 (l[k].own ++ [⟨rc, rk, rf, ru⟩]) ∧ IsAts (w2.setCell ⟨g, k * 5 + 4, none⟩ v2) (.slice (some ⟨g, 0, none⟩) l.length cap) (l.set k { l[k] with own := l[k].own ++ [⟨rc, rk, rf, ru⟩] }) ∧
      Below w.heap.size w (w2.setCell ⟨g, k * 5 + 4, none⟩ v2)) := by
    intro v2 w2 h1 h2
    have hrow2 : w2.ownsRow W0.heap.size 29 5 (.slice (some ⟨g, 0, none⟩) l.length cap) l.length (atCells l us) :=
      hOD.row.kept h2 (by
        rcases owns_apart HOWP.out hOD.row (by decide) with hn | hn
        · rw [hn]; right; simp [Value.ownBlock]
        · right; exact fun e => hn e.symm)
    have hv : w2.ownsRow W0.heap.size 37 4 v2 (l[k].own ++ [(⟨rc, rk, rf, ru⟩ : Ret)]).length (rtCells (l[k].own ++ [⟨rc, rk, rf, ru⟩])) := by
      rw [List.length_append, List.length_singleton, rtCells_append, rtCells_single]; exact h1
    have hrow := OwnAts.upd (by decide) hOD hk hku hv (by rw [huk]; exact h2)
    have hc := hrow2.cellAt (k * 5 + 4) (by omega)
    rw [atCells_get l us hO.len k 4 hk (by omega)] at hc
    have hrr0 := hrow.row
    rw [List.length_set] at hrr0
    have hst := hrr0.cellAt (k * 5 + 4) (by omega)
    rw [atCells_get _ _ hrow.len k 4 (by simpa using hk) (by omega)] at hst
    have hown2 := hrow.own k (by simpa using hk) (by simpa using hku)
    rw [List.getElem_set_self, List.getElem_set_self] at hown2
    have e2 : (us.set k v2)[k]'(by simpa using hku) = v2 := List.getElem_set_self (by simpa using hku)
    rw [e2] at hst
    have hb : Below w.heap.size w (w2.setCell ⟨g, k * 5 + 4, none⟩ v2) := by
      have h9 : Below W0.heap.size W0 w2 := below_append ((hb1.alloc hb1.size _).drew) HOWP.out h2 HS1.out
      exact (Below.to HB0.out h9 HB0.out.size).setCell (p := ⟨g, k * 5 + 4, none⟩) (Nat.le_trans HB0.out.size hgB) _
    have hr := hrow.reads
    have hrr : IsAts (w2.setCell ⟨g, k * 5 + 4, none⟩ v2) (.slice (some ⟨g, 0, none⟩) l.length cap) (l.set k { l[k] with own := l[k].own ++ [⟨rc, rk, rf, ru⟩] }) := ⟨_, hr⟩
    exact ⟨⟨_, hc⟩, hrow2.frozenAt _, hst, hown2, hrr, hb⟩
  clear hO hb1 howp huk hOD hA1 HCL
  go_wp2_with fail
  go_region_law (refine step_append_rd (by rfl) _ _ 27 (by rfl) W0.heap.size 37 _ 4 32 Try.underlying27 infoRt rfl (by decide) (.slice ua l[k].own.length uc) l[k].own.length (rtCells l[k].own) (by rfl) HOWP.out _ 1 (rtRow ⟨rc, rk, rf, ru⟩) (by rfl) HLX.out HR1.out HN1.out HN2.out HS1.out ?_
                 intro v2 w2 hv2 hg2
                 obtain ⟨va, vcc, rfl, -, -⟩ := owns_slice hv2
                 have HF := HUPD.out _ w2 hv2 hg2
                 clear hv2 hg2
                 obtain ⟨⟨x5, c5⟩, f5, c6, hr6, hl6, hb6⟩ := HF
                 have HR6 := Lib.hid hr6
                 have HL6 := Lib.hid hl6
                 have HB6 := Lib.hid hb6
                 clear hr6 hb6 hl6)
  all_goals
    obtain ⟨W3, hW3⟩ : ∃ W3, W3 = w2.setCell ⟨g, k * 5 + 4, none⟩ (.slice va (l[k].own.length + 1) vcc) := ⟨_, rfl⟩
    rw [← hW3]
    rw [← hW3] at c6 HR6 HL6 HB6
    have HVX := HR6
    have HB3 := HB6
    have HLX := HL6
    clear hW3 HUPD p0 p1 p2 p3 d4 HOWP HR1 c5 f5
    have HV := Lib.hid HVX.out
    have HCC := Lib.hid (check_any _ cs _ _ W3 HVX.out (HY.out.below HB3.out))
    rw [HCK.out] at HCC
    clear HVX
    go_wp2_with fail
    refine HCC.out.mono ?_
    rintro e w4 ⟨rfl, hb4⟩
    have HB4 := Lib.hid (Below.to HB3.out hb4 HB3.out.size)
    have HL4 := Lib.hid (HLX.out.below hb4)
    clear hb4
    by_cases hz : CK = 0
    · subst hz
      go_wp2_with fail
      go_ret2
      exact ⟨_, rfl, by first | exact HL4.out | (rw [if_pos rfl]; exact HL4.out), HB4.out⟩
    · have hzb : (CK == 0) = false := by simpa using hz
      have HNZ := Lib.hid hz
      clear hz
      go_wp2_with fail
      go_ret2
      exact ⟨_, rfl, by first | exact IsAts.nil _ _ _ | (rw [if_neg HNZ.out]; exact IsAts.nil _ _ _), HB4.out⟩

theorem set_same {α : Type} {xs : List α} {i : Nat} {v : α} (h : xs[i]? = some v) : xs.set i v = xs := by
  obtain ⟨hi, he⟩ := List.getElem?_eq_some_iff.1 h
  rw [← he, List.set_getElem_self]
/-- One attempt gets another slice of returns. -/
theorem OwnAts.swap {W W3 : World} {B E EI C k g cap : Nat} {l : List At} {us : List Value} {u' : Value} {x : At} (hE : EI ≠ E) (h : OwnAts W B E EI (.slice (some ⟨g, 0, none⟩) l.length cap) l us l.length) (hk : k < l.length)
    (hu : W.ownsRow C EI 4 u' x.own.length (rtCells x.own)) (hoth : ∀ b, b ≠ g → W3.heap[b]? = W.heap[b]?)
    (hrow : W3.ownsRow B E 5 (.slice (some ⟨g, 0, none⟩) l.length cap) l.length (atCells (l.set k x) (us.set k u'))) :
    IsAts W3 (.slice (some ⟨g, 0, none⟩) l.length cap) (l.set k x) ∧ IsRts W3 u' x.own := by
  have hun : ∀ b, u'.ownBlock = some b → b ≠ g := fun b hb e => by
    rcases owns_apart hu h.row hE with hn | hn
    · rw [hn] at hb; cases hb
    · rw [hb, e] at hn; exact hn rfl
  have hur : IsRts W3 u' x.own := Rd.same (IsRts.of_owns hu) fun b _ hb => hoth b (hun b hb)
  refine ⟨⟨us.set k u', by simp [h.len], ?_, ?_⟩, hur⟩
  · rw [List.length_set]
    exact Rd.of_owns hrow
  · intro i hi hi'
    simp only [List.length_set] at hi hi'
    by_cases e : i = k
    · subst e
      rw [List.getElem_set_self, List.getElem_set_self]
      exact hur
    · rw [List.getElem_set_ne (by omega), List.getElem_set_ne (by omega)]
      have h1 := h.own i hi hi' hi
      refine Rd.same (IsRts.of_owns h1) fun b _ hb => hoth b ?_
      intro e2
      rcases owns_apart h1 h.row hE with hn | hn
      · rw [hn] at hb; cases hb
      · rw [hb, e2] at hn; exact hn rfl

set_option maxHeartbeats 2000000 in
set_option maxRecDepth 100000 in
theorem refReturn (l : List At) (i : Int) (r : Ret) (cs : List (Int × Int)) (v y : Value) (w : World) (hx : IsAts w v l) (hy : IsSps w y cs) (hl : l.length ≤ 1000) (ho : ∀ x ∈ l, x.own.length ≤ 1000000) :
    Calls Try.prog 21 #[v, .int .i64 i, .agg (litRt r), y] w fun e w' => ∃ v', e = .returned (.tuple #[v', .int .i64 (retE cs.length l i r)]) ∧ IsAts w' v' (retL cs.length l i r) ∧ Below w.heap.size w w' := by
  obtain ⟨rc, rk, rf, ru⟩ := r
  show Calls Try.prog 21 #[v, .int .i64 i, .agg #[.int .i64 rc, .int .i64 rk, .int .i64 rf, .int .i64 ru], y] w _
  obtain ⟨P, hP⟩ : ∃ P, P = w.heap.size := ⟨_, rfl⟩
  obtain ⟨W0, hW0⟩ : ∃ W0, W0 = w.alloc (.cells #[.int .i64 rc, .int .i64 rk, .int .i64 rf, .int .i64 ru] 37) := ⟨_, rfl⟩
  have hb0 : Below w.heap.size w W0 := by rw [hW0]; exact (Below.refl _ _).alloc (Nat.le_refl _) _
  have hz0 : P < W0.heap.size := by rw [hW0, hP]; simp
  have hA : W0.heap[P]? = some (.cells #[.int .i64 rc, .int .i64 rk, .int .i64 rf, .int .i64 ru] 37) := by rw [hW0, hP]; exact heap_alloc_new w _
  have HX := Lib.hid hx
  have HY := Lib.hid hy
  have HB0 := Lib.hid hb0
  have HHO := Lib.hid ho
  have HZ0 : Hid (P < W0.heap.size) := hz0
  have HA := Lib.hid hA
  obtain ⟨v0, vc, rfl, hlm, -, -⟩ := hx.open
  unfold maxLen at hlm
  obtain ⟨ya, yc, rfl, -, -, -⟩ := hy.open
  have HPS := Lib.hid hP
  have HWE := Lib.hid hW0
  clear hy ho hW0 hA hz0 hP hx
  by_cases hin : i < 0 ∨ (l.length : Int) ≤ i
  · obtain ⟨he, hr⟩ := ret_out (n := cs.length) (r := ⟨rc, rk, rf, ru⟩) hin
    rw [he, hr]
    have hb0' := HB0.out
    rw [HWE.out] at hb0'
    have HB9 := Lib.hid hb0'
    have hparts : i < 0 ∨ (¬ i < 0 ∧ (l.length : Int) ≤ i) := by omega
    clear hin he hr hb0' hb0
    rcases hparts with h | ⟨h, h'⟩
    all_goals
      go_enter Try.func21, Try.ntmps21
      go_wp2_with fail
      go_ret2
      exact ⟨_, rfl, IsAts.nil _ _ _, HB9.out⟩
  obtain ⟨k, rfl⟩ : ∃ k : Nat, i = (k : Int) := ⟨i.toNat, by omega⟩
  have hk : k < l.length := by omega
  obtain ⟨he, hr⟩ := ret_in (n := cs.length) (r := ⟨rc, rk, rf, ru⟩) hk
  rw [he, hr]
  obtain ⟨CK, hCK⟩ : ∃ CK, chkF cs.length (l[k].own ++ [⟨rc, rk, rf, ru⟩]) = CK := ⟨_, rfl⟩
  rw [hCK]
  have HCK := Lib.hid hCK
  have hkl : (k : Int) < (l.length : Int) := by omega
  have hk0 : ¬ (k : Int) < 0 := by omega
  have hkl' : ¬ (l.length : Int) ≤ (k : Int) := by omega
  have HCL := Lib.hid (refCopies l _ W0 (HX.out.below hb0) (by omega) HHO.out)
  have hown := HHO.out l[k] (List.getElem_mem hk)
  obtain ⟨⟨ae, ap, ac, an, own⟩, hlk⟩ : ∃ a, l[k] = a := ⟨_, rfl⟩
  rw [hlk] at HCK hown ⊢
  simp only at HCK hown ⊢
  have HLK := Lib.hid hlk
  clear hin he hr hCK hb0 hlk
  go_enter Try.func21, Try.ntmps21
  go_wp2_with fail
  rw [← HWE.out, ← HPS.out]
  refine HCL.out.mono ?_
  rintro e w1 ⟨v1, us, rfl, hO, hb1⟩
  obtain ⟨g, cap, rfl, hgB, hgs, hcap⟩ := owns_some hO.row (by omega)
  have hA1 : w1.heap[P]? = some (.cells #[.int .i64 rc, .int .i64 rk, .int .i64 rf, .int .i64 ru] 37) := (hb1.block _ HZ0.out).trans HA.out
  obtain ⟨p0, p1, p2, p3⟩ := four_of hA1
  have HBT := Lib.hid (Below.to HB0.out hb1 HB0.out.size)
  have hku : k < us.length := by rw [hO.len]; exact hk
  obtain ⟨uk, huk⟩ : ∃ uk, us[k] = uk := ⟨_, rfl⟩
  have hOD : OwnAts (w1.alloc (.cells #[.int .i64 rc, .int .i64 rk, .int .i64 rf, .int .i64 ru] 37)).drew W0.heap.size 29 37 (.slice (some ⟨g, 0, none⟩) l.length cap) l us l.length := hO.below (((Below.refl _ _).alloc (Nat.le_refl _) _).drew)
  have hat : ∀ j u, (atRow l[k] us[k])[j]? = some u → j < 5 → w1.cell? ⟨g, k * 5 + j, none⟩ = some u := fun j u hu hj => by
    rw [hO.row.cellAt _ (by omega), atCells_get l us hO.len k j hk hj]; exact hu
  have hlk := HLK.out
  rw [hlk, huk] at hat
  have q0 := hat 0 _ rfl (by omega)
  have q1 := hat 1 _ rfl (by omega)
  have q2 := hat 2 _ rfl (by omega)
  have q3 := hat 3 _ rfl (by omega)
  have q4 := hat 4 _ rfl (by omega)
  rw [Nat.add_zero] at q0
  have hal : ∀ o, (w1.alloc (.cells #[.int .i64 rc, .int .i64 rk, .int .i64 rf, .int .i64 ru] 37)).cell? ⟨g, o, none⟩ = w1.cell? ⟨g, o, none⟩ := fun o => ((Below.refl _ _).alloc (Nat.le_refl _) _).cell (p := ⟨g, o, none⟩) hgs
  have r0 := (hal _).trans q0
  have r1 := (hal _).trans q1
  have r2 := (hal _).trans q2
  have r3 := (hal _).trans q3
  have r4 := (hal _).trans q4
  have howk := hO.own k hk hku hk
  rw [huk, hlk] at howk
  simp only at howk
  have HLX : Hid (IsRts (w1.alloc (.cells #[.int .i64 rc, .int .i64 rk, .int .i64 rf, .int .i64 ru] 37)).drew (.slice (some ⟨w1.heap.size, 0, none⟩) 1 1) [⟨rc, rk, rf, ru⟩]) := by
    show Rd _ _ _ _ _
    rw [rtCells_single]
    exact (retLit w1 ⟨rc, rk, rf, ru⟩).below ((Below.refl _ _).drew)
  obtain ⟨ua, uc, rfl, -, -⟩ := owns_slice howk
  have HUK : Hid (IsRts (w1.alloc (.cells #[.int .i64 rc, .int .i64 rk, .int .i64 rf, .int .i64 ru] 37)).drew (.slice ua own.length uc) own) := (IsRts.of_owns howk).below (((Below.refl _ _).alloc (Nat.le_refl _) _).drew)
  have HCP := Lib.hid (refCopy ⟨ae, ap, ac, an, own⟩ [⟨rc, rk, rf, ru⟩] _ _ _ HUK.out HLX.out hown (by simp))
  have HUPD : Hid (∀ va vcc w2, w2.ownsRow (w1.alloc (.cells #[.int .i64 rc, .int .i64 rk, .int .i64 rf, .int .i64 ru] 37)).drew.heap.size 37 4 (.slice va (own.length + 1) vcc) (own ++ [(⟨rc, rk, rf, ru⟩ : Ret)]).length (rtCells (own ++ [⟨rc, rk, rf, ru⟩])) → Below (w1.alloc (.cells #[.int .i64 rc, .int .i64 rk, .int .i64 rf, .int .i64 ru] 37)).drew.heap.size (w1.alloc (.cells #[.int .i64 rc, .int .i64 rk, .int .i64 rf, .int .i64 ru] 37)).drew w2 →
      (∃ x, w2.cell? ⟨g, k * 5, none⟩ = some x) ∧ w2.frozen? ⟨g, k * 5, none⟩ = false ∧ (∃ x, (w2.setCell ⟨g, k * 5, none⟩ (.int .i64 ae)).cell? ⟨g, k * 5 + 1, none⟩ = some x) ∧ (w2.setCell ⟨g, k * 5, none⟩ (.int .i64 ae)).frozen? ⟨g, k * 5 + 1, none⟩ = false ∧ (∃ x, ((w2.setCell ⟨g, k * 5, none⟩ (.int .i64 ae)).setCell ⟨g, k * 5 + 1, none⟩ (.int .i64 ap)).cell? ⟨g, k * 5 + 2, none⟩ = some x) ∧ ((w2.setCell ⟨g, k * 5, none⟩ (.int .i64 ae)).setCell ⟨g, k * 5 + 1, none⟩ (.int .i64 ap)).frozen? ⟨g, k * 5 + 2, none⟩ = false ∧ (∃ x, (((w2.setCell ⟨g, k * 5, none⟩ (.int .i64 ae)).setCell ⟨g, k * 5 + 1, none⟩ (.int .i64 ap)).setCell ⟨g, k * 5 + 2, none⟩ (.int .i64 ac)).cell? ⟨g, k * 5 + 3, none⟩ = some x) ∧ (((w2.setCell ⟨g, k * 5, none⟩ (.int .i64 ae)).setCell ⟨g, k * 5 + 1, none⟩ (.int .i64 ap)).setCell ⟨g, k * 5 + 2, none⟩ (.int .i64 ac)).frozen? ⟨g, k * 5 + 3, none⟩ = false ∧ (∃ x, ((((w2.setCell ⟨g, k * 5, none⟩ (.int .i64 ae)).setCell ⟨g, k * 5 + 1, none⟩ (.int .i64 ap)).setCell ⟨g, k * 5 + 2, none⟩ (.int .i64 ac)).setCell ⟨g, k * 5 + 3, none⟩ (.int .i64 an)).cell? ⟨g, k * 5 + 4, none⟩ = some x) ∧ ((((w2.setCell ⟨g, k * 5, none⟩ (.int .i64 ae)).setCell ⟨g, k * 5 + 1, none⟩ (.int .i64 ap)).setCell ⟨g, k * 5 + 2, none⟩ (.int .i64 ac)).setCell ⟨g, k * 5 + 3, none⟩ (.int .i64 an)).frozen? ⟨g, k * 5 + 4, none⟩ = false ∧ (((((w2.setCell ⟨g, k * 5, none⟩ (.int .i64 ae)).setCell ⟨g, k * 5 + 1, none⟩ (.int .i64 ap)).setCell ⟨g, k * 5 + 2, none⟩ (.int .i64 ac)).setCell ⟨g, k * 5 + 3, none⟩ (.int .i64 an)).setCell ⟨g, k * 5 + 4, none⟩ (.slice va (own.length + 1) vcc)).cell? ⟨g, k * 5 + 4, none⟩ = some (.slice va (own.length + 1) vcc) ∧
      IsRts (((((w2.setCell ⟨g, k * 5, none⟩ (.int .i64 ae)).setCell ⟨g, k * 5 + 1, none⟩ (.int .i64 ap)).setCell ⟨g, k * 5 + 2, none⟩ (.int .i64 ac)).setCell ⟨g, k * 5 + 3, none⟩ (.int .i64 an)).setCell ⟨g, k * 5 + 4, none⟩ (.slice va (own.length + 1) vcc)) (.slice va (own.length + 1) vcc) (own ++ [⟨rc, rk, rf, ru⟩]) ∧ IsAts (((((w2.setCell ⟨g, k * 5, none⟩ (.int .i64 ae)).setCell ⟨g, k * 5 + 1, none⟩ (.int .i64 ap)).setCell ⟨g, k * 5 + 2, none⟩ (.int .i64 ac)).setCell ⟨g, k * 5 + 3, none⟩ (.int .i64 an)).setCell ⟨g, k * 5 + 4, none⟩ (.slice va (own.length + 1) vcc)) (.slice (some ⟨g, 0, none⟩) l.length cap) (l.set k ⟨ae, ap, ac, an, own ++ [⟨rc, rk, rf, ru⟩]⟩) ∧ Below w.heap.size w (((((w2.setCell ⟨g, k * 5, none⟩ (.int .i64 ae)).setCell ⟨g, k * 5 + 1, none⟩ (.int .i64 ap)).setCell ⟨g, k * 5 + 2, none⟩ (.int .i64 ac)).setCell ⟨g, k * 5 + 3, none⟩ (.int .i64 an)).setCell ⟨g, k * 5 + 4, none⟩ (.slice va (own.length + 1) vcc))) := by
    intro va vcc w2 h1 h2
    have hO2 := hOD.below h2
    have hln := atCells_len l us hO2.len
    have hg2 : ∀ j u, (atRow l[k] us[k])[j]? = some u → j < 5 → (atCells l us)[k * 5 + j]? = some u := fun j u hu hj => by rw [atCells_get l us hO2.len k j hk hj]; exact hu
    rw [hlk] at hg2
    obtain ⟨s1, -⟩ := hO2.row.stored (k * 5) (.int .i64 ae)
    rw [set_same (by have := hg2 0 _ rfl (by omega); rwa [Nat.add_zero] at this)] at s1
    obtain ⟨s2, -⟩ := s1.stored (k * 5 + 1) (.int .i64 ap)
    rw [set_same (hg2 1 _ rfl (by omega))] at s2
    obtain ⟨s3, -⟩ := s2.stored (k * 5 + 2) (.int .i64 ac)
    rw [set_same (hg2 2 _ rfl (by omega))] at s3
    obtain ⟨s4, -⟩ := s3.stored (k * 5 + 3) (.int .i64 an)
    rw [set_same (hg2 3 _ rfl (by omega))] at s4
    obtain ⟨s5, -⟩ := s4.stored (k * 5 + 4) (.slice va (own.length + 1) vcc)
    have hset : (atCells l us).set (k * 5 + 4) (.slice va (own.length + 1) vcc) = atCells (l.set k ⟨ae, ap, ac, an, own ++ [⟨rc, rk, rf, ru⟩]⟩) (us.set k (.slice va (own.length + 1) vcc)) :=
      atCells_set l us hO2.len k 4 hk (by omega) _ _ _ (by rw [hlk]; rfl)
    rw [hset] at s5
    have hoth : ∀ b, b ≠ g → (((((w2.setCell ⟨g, k * 5, none⟩ (.int .i64 ae)).setCell ⟨g, k * 5 + 1, none⟩ (.int .i64 ap)).setCell ⟨g, k * 5 + 2, none⟩ (.int .i64 ac)).setCell ⟨g, k * 5 + 3, none⟩ (.int .i64 an)).setCell ⟨g, k * 5 + 4, none⟩ (.slice va (own.length + 1) vcc)).heap[b]? = w2.heap[b]? := fun b hb => by
      exact (heap_setCell_other _ ⟨g, _, none⟩ b _ hb).trans ((heap_setCell_other _ ⟨g, _, none⟩ b _ hb).trans ((heap_setCell_other _ ⟨g, _, none⟩ b _ hb).trans ((heap_setCell_other _ ⟨g, _, none⟩ b _ hb).trans (heap_setCell_other _ ⟨g, _, none⟩ b _ hb))))
    obtain ⟨ha, hr⟩ := hO2.swap (x := ⟨ae, ap, ac, an, own ++ [⟨rc, rk, rf, ru⟩]⟩) (by decide) hk h1 hoth s5
    have hc5 := s5.cellAt (k * 5 + 4) (by omega)
    rw [atCells_get _ _ (by simp [hO2.len]) k 4 (by simpa using hk) (by omega)] at hc5
    have e2 : (us.set k (.slice va (own.length + 1) vcc))[k]'(by simpa using hku) = (.slice va (own.length + 1) vcc) := List.getElem_set_self (by simpa using hku)
    rw [e2] at hc5
    have hex : ∀ j, j < 5 → ∃ x, (atCells l us)[k * 5 + j]? = some x := fun j hj => ⟨_, List.getElem?_eq_getElem (by rw [hln]; omega)⟩
    have hkk : k * 5 + 5 ≤ l.length * 5 := by omega
    have hgw : w.heap.size ≤ g := Nat.le_trans HB0.out.size hgB
    have hb : Below w.heap.size w (((((w2.setCell ⟨g, k * 5, none⟩ (.int .i64 ae)).setCell ⟨g, k * 5 + 1, none⟩ (.int .i64 ap)).setCell ⟨g, k * 5 + 2, none⟩ (.int .i64 ac)).setCell ⟨g, k * 5 + 3, none⟩ (.int .i64 an)).setCell ⟨g, k * 5 + 4, none⟩ (.slice va (own.length + 1) vcc)) := ((((((Below.to HBT.out (Below.to (((Below.refl _ _).alloc (Nat.le_refl _) _).drew) h2 (by simp)) HBT.out.size).setCell (p := ⟨g, k * 5, none⟩) hgw _).setCell (p := ⟨g, k * 5 + 1, none⟩) hgw _).setCell (p := ⟨g, k * 5 + 2, none⟩) hgw _).setCell (p := ⟨g, k * 5 + 3, none⟩) hgw _).setCell (p := ⟨g, k * 5 + 4, none⟩) hgw _)
    obtain ⟨x0, hx0⟩ := hex 0 (by omega)
    obtain ⟨x1, hx1⟩ := hex 1 (by omega)
    obtain ⟨x2, hx2⟩ := hex 2 (by omega)
    obtain ⟨x3, hx3⟩ := hex 3 (by omega)
    obtain ⟨x4, hx4⟩ := hex 4 (by omega)
    exact ⟨⟨x0, (hO2.row.cellAt _ (by omega)).trans (by rw [Nat.add_zero] at hx0; exact hx0)⟩, hO2.row.frozenAt _, ⟨x1, (s1.cellAt _ (by omega)).trans hx1⟩, s1.frozenAt _, ⟨x2, (s2.cellAt _ (by omega)).trans hx2⟩, s2.frozenAt _, ⟨x3, (s3.cellAt _ (by omega)).trans hx3⟩, s3.frozenAt _, ⟨x4, (s4.cellAt _ (by omega)).trans hx4⟩, s4.frozenAt _, hc5.trans rfl, hr, ha, hb⟩
  clear hO hb1 huk hOD hA1 HCL hat hal howk hlk
  go_wp2_with fail
  go_region_with (go_at_call 39
                  refine HCP.out.mono ?_
                  rintro e w2 ⟨u2, rfl, hu2, hb2⟩
                  obtain ⟨va, vcc, rfl, -, -⟩ := owns_slice hu2
                  have HF := HUPD.out va vcc w2 (by simpa using hu2) hb2
                  obtain ⟨⟨x0, c0⟩, f0, ⟨x1, c1⟩, f1, ⟨x2, c2⟩, f2, ⟨x3, c3⟩, f3, ⟨x4, c4⟩, f4, c6, hr6, hl6, hb6⟩ := HF
                  have HR6 := Lib.hid hr6
                  have HL6 := Lib.hid hl6
                  have HB6 := Lib.hid hb6
                  clear hu2 hb2 hr6 hl6 hb6)
  all_goals
    obtain ⟨W3, hW3⟩ : ∃ W3, W3 = (((((w2.setCell ⟨g, k * 5, none⟩ (.int .i64 ae)).setCell ⟨g, k * 5 + 1, none⟩ (.int .i64 ap)).setCell ⟨g, k * 5 + 2, none⟩ (.int .i64 ac)).setCell ⟨g, k * 5 + 3, none⟩ (.int .i64 an)).setCell ⟨g, k * 5 + 4, none⟩ (.slice va (own.length + 1) vcc)) := ⟨_, rfl⟩
    rw [← hW3]
    rw [← hW3] at c6 HR6 HL6 HB6
    have HVX := HR6
    have HB3 := HB6
    have HLX := HL6
    clear hW3 HUPD p0 p1 p2 p3 q0 q1 q2 q3 q4 r0 r1 r2 r3 r4 c0 c1 c2 c3 c4 f0 f1 f2 f3 f4 HCP
    have HV := Lib.hid HVX.out
    have HCC := Lib.hid (refCheck_any _ cs _ _ W3 HVX.out (HY.out.below HB3.out))
    rw [HCK.out] at HCC
    clear HVX
    go_wp2_with fail
    refine HCC.out.mono ?_
    rintro e w4 ⟨rfl, hb4⟩
    have HB4 := Lib.hid (Below.to HB3.out hb4 HB3.out.size)
    have HL4 := Lib.hid (HLX.out.below hb4)
    clear hb4
    by_cases hz : CK = 0
    · subst hz
      go_wp2_with fail
      go_ret2
      exact ⟨_, rfl, by first | exact HL4.out | (rw [if_pos rfl]; exact HL4.out), HB4.out⟩
    · have hzb : (CK == 0) = false := by simpa using hz
      have HNZ := Lib.hid hz
      clear hz
      go_wp2_with fail
      go_ret2
      exact ⟨_, rfl, by first | exact IsAts.nil _ _ _ | (rw [if_neg HNZ.out]; exact IsAts.nil _ _ _), HB4.out⟩

end Go.Proofs.Ytdhiefgbajogcaa
