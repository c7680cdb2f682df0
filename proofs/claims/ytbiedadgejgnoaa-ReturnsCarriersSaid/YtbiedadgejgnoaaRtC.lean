/-
  Check of returns: the program's and the reference's.
-/
import Derived.Test.YtbiedadgejgnoaaRtE
namespace Go.Proofs.Ytbiedadgejgnoaa
open Go.RowKit

def dayB (x : Int) : Bool := decide (0 ≤ x) && decide (x ≤ 3652058)
def validB (r : Ret) : Bool := if r.kind = 1 then dayB r.fr && dayB r.un && decide (r.fr ≤ r.un) else if r.kind = 2 then decide (r.fr = 0) && dayB r.un else if r.kind = 3 then decide (r.fr = 0) && decide (r.un = 0) else false
def carB (n : Nat) (r : Ret) : Bool := decide (0 ≤ r.car) && decide (r.car < (n : Int))
def okB (n : Nat) (r : Ret) : Bool := carB n r && validB r
def chkF (n : Nat) (l : List Ret) : Int := if 32 < l.length then 2 else if l.all (okB n) = true then 0 else 5

theorem chkF_many {n : Nat} {l : List Ret} (h : 32 < l.length) : chkF n l = 2 := if_pos h
theorem chkF_bad {n : Nat} {l : List Ret} (h : ¬ 32 < l.length) {k : Nat} (hk : k < l.length) (hb : okB n l[k] = false) : chkF n l = 5 := by
  unfold chkF
  rw [if_neg h, if_neg]
  intro ha
  have := List.all_eq_true.1 ha l[k] (List.getElem_mem _)
  rw [hb] at this
  cases this
theorem chkF_ok {n : Nat} {l : List Ret} (h : ¬ 32 < l.length) (ha : ∀ k (hk : k < l.length), okB n l[k] = true) : chkF n l = 0 := by
  unfold chkF
  rw [if_neg h, if_pos]
  rw [List.all_eq_true]
  intro x hx
  obtain ⟨i, hi, rfl⟩ := List.mem_iff_getElem.1 hx
  exact ha i hi
theorem okB_of {n : Nat} {r : Ret} (h : RetOk n r) : okB n r = true := by
  obtain ⟨⟨h1, h2⟩, h3⟩ := h
  unfold okB carB validB dayB
  rcases h3 with ⟨k, a, b, c⟩ | ⟨k, a, b, c⟩ | ⟨k, a, b⟩
  · rw [if_pos k]; simp; omega
  · rw [if_neg (by omega), if_pos k]; simp; omega
  · rw [if_neg (by omega), if_neg (by omega), if_pos k]; simp; omega
theorem of_okB {n : Nat} {r : Ret} (h : okB n r = true) : RetOk n r := by
  unfold okB carB validB dayB at h
  unfold RetOk
  by_cases k1 : r.kind = 1
  · rw [if_pos k1] at h; simp at h; omega
  · rw [if_neg k1] at h
    by_cases k2 : r.kind = 2
    · rw [if_pos k2] at h; simp at h; omega
    · rw [if_neg k2] at h
      by_cases k3 : r.kind = 3
      · rw [if_pos k3] at h; simp at h; omega
      · rw [if_neg k3] at h; simp at h
theorem chkF_rets {n : Nat} {l : List Ret} (h : RetsOk n l) (hl : l.length ≤ 32) : chkF n l = 0 := chkF_ok (by omega) (fun _ _ => okB_of (h _ (List.getElem_mem _)))
theorem chkF_zero {n : Nat} {l : List Ret} (h : chkF n l = 0) : RetsOk n l ∧ l.length ≤ 32 := by
  unfold chkF at h
  by_cases h1 : 32 < l.length
  · rw [if_pos h1] at h; omega
  · rw [if_neg h1] at h
    by_cases h2 : l.all (okB n) = true
    · exact ⟨fun r hr => of_okB (List.all_eq_true.1 h2 r hr), by omega⟩
    · rw [if_neg h2] at h; omega

theorem within_any (x : Int) (w : World) : Calls Try.prog 38 #[.int .i64 x] w fun e w' => e = .returned (.bool (dayB x)) ∧ w = w' := by
  by_cases h : 0 ≤ x
  · have HR : Hid (dayB x = decide (x ≤ 3652058)) := by show _ = _; unfold dayB; simp [h]
    go_enter Try.func38, Try.ntmps38
    go_wp2
    go_ret
    exact ⟨ret_bool HR.out.symm, rfl⟩
  · have HR : Hid (dayB x = false) := by show _ = _; unfold dayB; simp [h]
    have h' : x < 0 := by omega
    go_enter Try.func38, Try.ntmps38
    go_wp2
    go_ret
    exact ⟨ret_bool HR.out.symm, rfl⟩
theorem within_is (x : Int) (b : Bool) (h : dayB x = b) (w : World) : Calls Try.prog 38 #[.int .i64 x] w fun e w' => e = .returned (.bool b) ∧ w = w' := by
  rw [← h]; exact within_any x w
theorem rwithin_any (x : Int) (w : World) : Calls Try.prog 65 #[.int .i64 x] w fun e w' => e = .returned (.bool (dayB x)) ∧ w = w' := by
  by_cases h : 0 ≤ x
  · have HR : Hid (dayB x = decide (x ≤ 3652058)) := by show _ = _; unfold dayB; simp [h]
    go_enter Try.func65, Try.ntmps65
    go_wp2
    go_ret
    exact ⟨ret_bool HR.out.symm, rfl⟩
  · have HR : Hid (dayB x = false) := by show _ = _; unfold dayB; simp [h]
    have h' : x < 0 := by omega
    go_enter Try.func65, Try.ntmps65
    go_wp2
    go_ret
    exact ⟨ret_bool HR.out.symm, rfl⟩
theorem rwithin_is (x : Int) (b : Bool) (h : dayB x = b) (w : World) : Calls Try.prog 65 #[.int .i64 x] w fun e w' => e = .returned (.bool b) ∧ w = w' := by
  rw [← h]; exact rwithin_any x w
theorem valid_any (r : Ret) (w : World) : Calls Try.prog 39 #[.agg (litRt r)] w fun e w' => e = .returned (.bool (validB r)) ∧ Below w.heap.size w w' := by
  obtain ⟨sc, sk, sf, su⟩ := r
  have HB : Hid (Below w.heap.size w (w.alloc (.cells #[.int .i64 sc, .int .i64 sk, .int .i64 sf, .int .i64 su] 30))) := (Below.refl _ _).alloc (Nat.le_refl _) _
  show Calls Try.prog 39 #[.agg #[.int .i64 sc, .int .i64 sk, .int .i64 sf, .int .i64 su]] w _
  by_cases k1 : sk = 1
  · subst k1
    by_cases u1 : dayB sf = true
    · by_cases u2 : dayB su = true
      · by_cases u3 : sf ≤ su
        · have HR : Hid (validB ⟨sc, 1, sf, su⟩ = true) := by show _ = _; unfold validB; simp [u1, u2, u3]
          have Hsf := Lib.hid (rwithin_is sf true u1)
          have Hsu := Lib.hid (rwithin_is su true u2)
          clear u1 u2
          go_enter Try.func39, Try.ntmps39
          go_wp2_with fail
          refine (Hsf.out _).mono ?_
          rintro e w' ⟨rfl, rfl⟩
          go_wp2_with fail
          refine (Hsu.out _).mono ?_
          rintro e w' ⟨rfl, rfl⟩
          go_wp2_with fail
          go_ret
          exact ⟨ret_bool HR.out.symm, HB.out⟩
        · have u3' : decide (sf ≤ su) = false := by simp; omega
          have HR : Hid (validB ⟨sc, 1, sf, su⟩ = false) := by show _ = _; unfold validB; simp [u1, u2, u3]
          have Hsf := Lib.hid (rwithin_is sf true u1)
          have Hsu := Lib.hid (rwithin_is su true u2)
          clear u1 u2
          go_enter Try.func39, Try.ntmps39
          go_wp2_with fail
          refine (Hsf.out _).mono ?_
          rintro e w' ⟨rfl, rfl⟩
          go_wp2_with fail
          refine (Hsu.out _).mono ?_
          rintro e w' ⟨rfl, rfl⟩
          go_wp2_with fail
          go_ret
          exact ⟨ret_bool HR.out.symm, HB.out⟩
      · have u2' : dayB su = false := by simpa using u2
        have HR : Hid (validB ⟨sc, 1, sf, su⟩ = false) := by show _ = _; unfold validB; simp [u1, u2']
        have Hsf := Lib.hid (rwithin_is sf true u1)
        have Hsu := Lib.hid (rwithin_is su false u2')
        clear u1 u2'
        go_enter Try.func39, Try.ntmps39
        go_wp2_with fail
        refine (Hsf.out _).mono ?_
        rintro e w' ⟨rfl, rfl⟩
        go_wp2_with fail
        refine (Hsu.out _).mono ?_
        rintro e w' ⟨rfl, rfl⟩
        go_wp2_with fail
        go_ret
        exact ⟨ret_bool HR.out.symm, HB.out⟩
    · have u1' : dayB sf = false := by simpa using u1
      have HR : Hid (validB ⟨sc, 1, sf, su⟩ = false) := by show _ = _; unfold validB; simp [u1']
      have Hsf := Lib.hid (rwithin_is sf false u1')
      clear u1'
      go_enter Try.func39, Try.ntmps39
      go_wp2_with fail
      refine (Hsf.out _).mono ?_
      rintro e w' ⟨rfl, rfl⟩
      go_wp2_with fail
      go_ret
      exact ⟨ret_bool HR.out.symm, HB.out⟩
  · have e1 : (sk == 1) = false := by simpa using k1
    by_cases k2 : sk = 2
    · subst k2
      by_cases f0 : sf = 0
      · subst f0
        by_cases u2 : dayB su = true
        · have HR : Hid (validB ⟨sc, 2, 0, su⟩ = true) := by show _ = _; unfold validB; simp [u2]
          have Hsu := Lib.hid (rwithin_is su true u2)
          clear u2
          go_enter Try.func39, Try.ntmps39
          go_wp2_with fail
          refine (Hsu.out _).mono ?_
          rintro e w' ⟨rfl, rfl⟩
          go_wp2_with fail
          go_ret
          exact ⟨ret_bool HR.out.symm, HB.out⟩
        · have u2' : dayB su = false := by simpa using u2
          have HR : Hid (validB ⟨sc, 2, 0, su⟩ = false) := by show _ = _; unfold validB; simp [u2']
          have Hsu := Lib.hid (rwithin_is su false u2')
          clear u2'
          go_enter Try.func39, Try.ntmps39
          go_wp2_with fail
          refine (Hsu.out _).mono ?_
          rintro e w' ⟨rfl, rfl⟩
          go_wp2_with fail
          go_ret
          exact ⟨ret_bool HR.out.symm, HB.out⟩
      · have f0' : (sf == 0) = false := by simpa using f0
        have HR : Hid (validB ⟨sc, 2, sf, su⟩ = false) := by show _ = _; unfold validB; simp [f0]
        go_enter Try.func39, Try.ntmps39
        go_wp2_with fail
        go_ret
        exact ⟨ret_bool HR.out.symm, HB.out⟩
    · have e2 : (sk == 2) = false := by simpa using k2
      by_cases k3 : sk = 3
      · subst k3
        by_cases f0 : sf = 0
        · subst f0
          by_cases f1 : su = 0
          · subst f1
            have HR : Hid (validB ⟨sc, 3, 0, 0⟩ = true) := by show _ = _; unfold validB; simp []
            go_enter Try.func39, Try.ntmps39
            go_wp2_with fail
            go_ret
            exact ⟨ret_bool HR.out.symm, HB.out⟩
          · have f1' : (su == 0) = false := by simpa using f1
            have HR : Hid (validB ⟨sc, 3, 0, su⟩ = false) := by show _ = _; unfold validB; simp [f1]
            go_enter Try.func39, Try.ntmps39
            go_wp2_with fail
            go_ret
            exact ⟨ret_bool HR.out.symm, HB.out⟩
        · have f0' : (sf == 0) = false := by simpa using f0
          have HR : Hid (validB ⟨sc, 3, sf, su⟩ = false) := by show _ = _; unfold validB; simp [f0]
          go_enter Try.func39, Try.ntmps39
          go_wp2_with fail
          go_ret
          exact ⟨ret_bool HR.out.symm, HB.out⟩
      · have e3 : (sk == 3) = false := by simpa using k3
        have HR : Hid (validB ⟨sc, sk, sf, su⟩ = false) := by show _ = _; unfold validB; simp [k1, k2, k3]
        go_enter Try.func39, Try.ntmps39
        go_wp2_with fail
        go_ret
        exact ⟨ret_bool HR.out.symm, HB.out⟩
theorem valid_is (r : Ret) (b : Bool) (h : validB r = b) (w : World) : Calls Try.prog 39 #[.agg (litRt r)] w fun e w' => e = .returned (.bool b) ∧ Below w.heap.size w w' := by
  rw [← h]; exact valid_any r w

set_option maxHeartbeats 4000000 in
set_option maxRecDepth 100000 in
theorem check_any (l : List Ret) (cs : List (Int × Int)) (v u : Value) (w : World) (hx : IsRts w v l) (hy : IsSps w u cs) :
    Calls Try.prog 24 #[v, u] w fun e w' => e = .returned (.int .i64 (chkF cs.length l)) ∧ Below w.heap.size w w' := by
  have HX := Lib.hid hx
  obtain ⟨a0, c0, rfl, hlm, -⟩ := hx.open
  obtain ⟨a1, c1, rfl, -, -, -⟩ := hy.open
  unfold maxLen at hlm
  clear hx hy
  by_cases hl : 32 < l.length
  · have HR := Lib.hid (chkF_many (n := cs.length) hl)
    have hl' : (32 : Int) < (l.length : Int) := by omega
    go_enter Try.func24, Try.ntmps24
    go_wp2_with fail
    go_ret
    exact ⟨ret_int HR.out.symm, Below.refl _ _⟩
  have hl' : ¬ (32 : Int) < (l.length : Int) := by omega
  go_enter Try.func24, Try.ntmps24
  go_wp2_with fail
  go_loopw [13] (fun i wr => ∃ k : Nat, i = .int .i64 k ∧ k ≤ l.length ∧ Hid (∀ j (hj : j < l.length), j < k → okB cs.length l[j] = true) ∧ Hid (Below w.heap.size w wr)) (fun i _ => l.length - (intOf i).toNat)
  case atStart => exact ⟨0, rfl, Nat.zero_le _, Lib.hid (fun j _ h => absurd h (Nat.not_lt_zero _)), Lib.hid (Below.refl _ _)⟩
  case round =>
    obtain ⟨k, rfl, hk, HOK, HBR⟩ := hrel
    have ek : IntKind.i64.wrap ((k : Int) + 1) = ((k + 1 : Nat) : Int) := by rw [IntKind.wrap_i64]; omega
    by_cases hkl : k < l.length
    · obtain ⟨b5, o5, q5, e5, hlt5, d0, d1, d2, d3⟩ := (HX.out.below HBR.out).at hkl
      simp only [Value.slice.injEq, true_and] at e5
      obtain ⟨rfl, -⟩ := e5
      have HBAD : Hid (okB cs.length l[k] = false → chkF cs.length l = 5) := fun h => chkF_bad hl hkl h
      have HGO : Hid (okB cs.length l[k] = true → ∀ j (hj : j < l.length), j < k + 1 → okB cs.length l[j] = true) := fun h j hj hjk => by
        rcases Nat.lt_succ_iff_lt_or_eq.1 hjk with h' | rfl
        · exact HOK.out j hj h'
        · exact h
      generalize l[k] = s at *
      obtain ⟨sc, sk, sf, su⟩ := s
      simp only at d0 d1 d2 d3
      have HBA : Hid (Below w.heap.size w (wr.alloc (.cells #[.int .i64 sc, .int .i64 sk, .int .i64 sf, .int .i64 su] 30))) := HBR.out.alloc HBR.out.size _
      by_cases g1 : 0 ≤ sc
      · by_cases g2 : sc < (cs.length : Int)
        · by_cases k1 : sk = 1
          · subst k1
            by_cases u1 : dayB sf = true
            · by_cases u2 : dayB su = true
              · by_cases u3 : sf ≤ su
                · have HO : Hid (okB cs.length ⟨sc, 1, sf, su⟩ = true) := by show _ = _; unfold okB carB validB; simp [g1, g2, u1, u2, u3]
                  have Hsf := Lib.hid (within_is sf true u1)
                  have Hsu := Lib.hid (within_is su true u2)
                  have HOK2 := Lib.hid (HGO.out HO.out)
                  clear HOK HO HBAD HGO u1 u2
                  go_wp2_with fail
                  refine (Hsf.out _).mono ?_
                  rintro e w' ⟨rfl, rfl⟩
                  go_wp2_with fail
                  refine (Hsu.out _).mono ?_
                  rintro e w' ⟨rfl, rfl⟩
                  go_wp2_with fail
                  go_roundw
                  case rel => exact ⟨k + 1, by go_num, by omega, HOK2, HBA⟩
                  case measure => simp [intOf]; omega
                · have u3' : decide (sf ≤ su) = false := by simp; omega
                  have HO : Hid (okB cs.length ⟨sc, 1, sf, su⟩ = false) := by show _ = _; unfold okB carB validB; simp [g1, g2, u1, u2, u3]
                  have Hsf := Lib.hid (within_is sf true u1)
                  have Hsu := Lib.hid (within_is su true u2)
                  have HR := Lib.hid (HBAD.out HO.out)
                  clear HOK HO HBAD HGO u1 u2
                  go_wp2_with fail
                  refine (Hsf.out _).mono ?_
                  rintro e w' ⟨rfl, rfl⟩
                  go_wp2_with fail
                  refine (Hsu.out _).mono ?_
                  rintro e w' ⟨rfl, rfl⟩
                  go_wp2_with fail
                  go_ret
                  exact ⟨ret_int HR.out.symm, HBA.out⟩
              · have u2' : dayB su = false := by simpa using u2
                have HO : Hid (okB cs.length ⟨sc, 1, sf, su⟩ = false) := by show _ = _; unfold okB carB validB; simp [g1, g2, u1, u2']
                have Hsf := Lib.hid (within_is sf true u1)
                have Hsu := Lib.hid (within_is su false u2')
                have HR := Lib.hid (HBAD.out HO.out)
                clear HOK HO HBAD HGO u1 u2'
                go_wp2_with fail
                refine (Hsf.out _).mono ?_
                rintro e w' ⟨rfl, rfl⟩
                go_wp2_with fail
                refine (Hsu.out _).mono ?_
                rintro e w' ⟨rfl, rfl⟩
                go_wp2_with fail
                go_ret
                exact ⟨ret_int HR.out.symm, HBA.out⟩
            · have u1' : dayB sf = false := by simpa using u1
              have HO : Hid (okB cs.length ⟨sc, 1, sf, su⟩ = false) := by show _ = _; unfold okB carB validB; simp [g1, g2, u1']
              have Hsf := Lib.hid (within_is sf false u1')
              have HR := Lib.hid (HBAD.out HO.out)
              clear HOK HO HBAD HGO u1'
              go_wp2_with fail
              refine (Hsf.out _).mono ?_
              rintro e w' ⟨rfl, rfl⟩
              go_wp2_with fail
              go_ret
              exact ⟨ret_int HR.out.symm, HBA.out⟩
          · have e1 : (sk == 1) = false := by simpa using k1
            by_cases k2 : sk = 2
            · subst k2
              by_cases f0 : sf = 0
              · subst f0
                by_cases u2 : dayB su = true
                · have HO : Hid (okB cs.length ⟨sc, 2, 0, su⟩ = true) := by show _ = _; unfold okB carB validB; simp [g1, g2, u2]
                  have Hsu := Lib.hid (within_is su true u2)
                  have HOK2 := Lib.hid (HGO.out HO.out)
                  clear HOK HO HBAD HGO u2
                  go_wp2_with fail
                  refine (Hsu.out _).mono ?_
                  rintro e w' ⟨rfl, rfl⟩
                  go_wp2_with fail
                  go_roundw
                  case rel => exact ⟨k + 1, by go_num, by omega, HOK2, HBA⟩
                  case measure => simp [intOf]; omega
                · have u2' : dayB su = false := by simpa using u2
                  have HO : Hid (okB cs.length ⟨sc, 2, 0, su⟩ = false) := by show _ = _; unfold okB carB validB; simp [g1, g2, u2']
                  have Hsu := Lib.hid (within_is su false u2')
                  have HR := Lib.hid (HBAD.out HO.out)
                  clear HOK HO HBAD HGO u2'
                  go_wp2_with fail
                  refine (Hsu.out _).mono ?_
                  rintro e w' ⟨rfl, rfl⟩
                  go_wp2_with fail
                  go_ret
                  exact ⟨ret_int HR.out.symm, HBA.out⟩
              · have f0' : (sf == 0) = false := by simpa using f0
                have HO : Hid (okB cs.length ⟨sc, 2, sf, su⟩ = false) := by show _ = _; unfold okB carB validB; simp [g1, g2, f0]
                have HR := Lib.hid (HBAD.out HO.out)
                clear HOK HO HBAD HGO
                go_wp2_with fail
                go_ret
                exact ⟨ret_int HR.out.symm, HBA.out⟩
            · have e2 : (sk == 2) = false := by simpa using k2
              by_cases k3 : sk = 3
              · subst k3
                by_cases f0 : sf = 0
                · subst f0
                  by_cases f1 : su = 0
                  · subst f1
                    have HO : Hid (okB cs.length ⟨sc, 3, 0, 0⟩ = true) := by show _ = _; unfold okB carB validB; simp [g1, g2]
                    have HOK2 := Lib.hid (HGO.out HO.out)
                    clear HOK HO HBAD HGO
                    go_wp2_with fail
                    go_roundw
                    case rel => exact ⟨k + 1, by go_num, by omega, HOK2, HBA⟩
                    case measure => simp [intOf]; omega
                  · have f1' : (su == 0) = false := by simpa using f1
                    have HO : Hid (okB cs.length ⟨sc, 3, 0, su⟩ = false) := by show _ = _; unfold okB carB validB; simp [g1, g2, f1]
                    have HR := Lib.hid (HBAD.out HO.out)
                    clear HOK HO HBAD HGO
                    go_wp2_with fail
                    go_ret
                    exact ⟨ret_int HR.out.symm, HBA.out⟩
                · have f0' : (sf == 0) = false := by simpa using f0
                  have HO : Hid (okB cs.length ⟨sc, 3, sf, su⟩ = false) := by show _ = _; unfold okB carB validB; simp [g1, g2, f0]
                  have HR := Lib.hid (HBAD.out HO.out)
                  clear HOK HO HBAD HGO
                  go_wp2_with fail
                  go_ret
                  exact ⟨ret_int HR.out.symm, HBA.out⟩
              · have e3 : (sk == 3) = false := by simpa using k3
                have HO : Hid (okB cs.length ⟨sc, sk, sf, su⟩ = false) := by show _ = _; unfold okB carB validB; simp [g1, g2, k1, k2, k3]
                have HR := Lib.hid (HBAD.out HO.out)
                clear HOK HO HBAD HGO
                go_wp2_with fail
                go_ret
                exact ⟨ret_int HR.out.symm, HBA.out⟩
        · by_cases k1 : sk = 1
          · subst k1
            have HO : Hid (okB cs.length ⟨sc, 1, sf, su⟩ = false) := by show _ = _; unfold okB carB validB; simp [g2]
            have HR := Lib.hid (HBAD.out HO.out)
            clear HOK HO HBAD HGO
            go_wp2_with fail
            go_ret
            exact ⟨ret_int HR.out.symm, HBA.out⟩
          · have e1 : (sk == 1) = false := by simpa using k1
            by_cases k2 : sk = 2
            · subst k2
              have HO : Hid (okB cs.length ⟨sc, 2, sf, su⟩ = false) := by show _ = _; unfold okB carB validB; simp [g2]
              have HR := Lib.hid (HBAD.out HO.out)
              clear HOK HO HBAD HGO
              go_wp2_with fail
              go_ret
              exact ⟨ret_int HR.out.symm, HBA.out⟩
            · have e2 : (sk == 2) = false := by simpa using k2
              by_cases k3 : sk = 3
              · subst k3
                have HO : Hid (okB cs.length ⟨sc, 3, sf, su⟩ = false) := by show _ = _; unfold okB carB validB; simp [g2]
                have HR := Lib.hid (HBAD.out HO.out)
                clear HOK HO HBAD HGO
                go_wp2_with fail
                go_ret
                exact ⟨ret_int HR.out.symm, HBA.out⟩
              · have e3 : (sk == 3) = false := by simpa using k3
                have HO : Hid (okB cs.length ⟨sc, sk, sf, su⟩ = false) := by show _ = _; unfold okB carB validB; simp [g2]
                have HR := Lib.hid (HBAD.out HO.out)
                clear HOK HO HBAD HGO
                go_wp2_with fail
                go_ret
                exact ⟨ret_int HR.out.symm, HBA.out⟩
      · have g1' : sc < 0 := by omega
        by_cases k1 : sk = 1
        · subst k1
          have HO : Hid (okB cs.length ⟨sc, 1, sf, su⟩ = false) := by show _ = _; unfold okB carB validB; simp [g1]
          have HR := Lib.hid (HBAD.out HO.out)
          clear HOK HO HBAD HGO
          go_wp2_with fail
          go_ret
          exact ⟨ret_int HR.out.symm, HBA.out⟩
        · have e1 : (sk == 1) = false := by simpa using k1
          by_cases k2 : sk = 2
          · subst k2
            have HO : Hid (okB cs.length ⟨sc, 2, sf, su⟩ = false) := by show _ = _; unfold okB carB validB; simp [g1]
            have HR := Lib.hid (HBAD.out HO.out)
            clear HOK HO HBAD HGO
            go_wp2_with fail
            go_ret
            exact ⟨ret_int HR.out.symm, HBA.out⟩
          · have e2 : (sk == 2) = false := by simpa using k2
            by_cases k3 : sk = 3
            · subst k3
              have HO : Hid (okB cs.length ⟨sc, 3, sf, su⟩ = false) := by show _ = _; unfold okB carB validB; simp [g1]
              have HR := Lib.hid (HBAD.out HO.out)
              clear HOK HO HBAD HGO
              go_wp2_with fail
              go_ret
              exact ⟨ret_int HR.out.symm, HBA.out⟩
            · have e3 : (sk == 3) = false := by simpa using k3
              have HO : Hid (okB cs.length ⟨sc, sk, sf, su⟩ = false) := by show _ = _; unfold okB carB validB; simp [g1]
              have HR := Lib.hid (HBAD.out HO.out)
              clear HOK HO HBAD HGO
              go_wp2_with fail
              go_ret
              exact ⟨ret_int HR.out.symm, HBA.out⟩
    · obtain rfl : k = l.length := by omega
      have HR : Hid (chkF cs.length l = 0) := chkF_ok hl (fun j hj => HOK.out j hj hj)
      go_wp2_with fail
      go_ret
      exact ⟨ret_int HR.out.symm, HBR.out⟩
set_option maxHeartbeats 4000000 in
set_option maxRecDepth 100000 in
theorem refCheck_any (l : List Ret) (cs : List (Int × Int)) (v u : Value) (w : World) (hx : IsRts w v l) (hy : IsSps w u cs) :
    Calls Try.prog 25 #[v, u] w fun e w' => e = .returned (.int .i64 (chkF cs.length l)) ∧ Below w.heap.size w w' := by
  have HX := Lib.hid hx
  obtain ⟨a0, c0, rfl, hlm, -⟩ := hx.open
  obtain ⟨a1, c1, rfl, -, -, -⟩ := hy.open
  unfold maxLen at hlm
  clear hx hy
  by_cases hl : 32 < l.length
  · have HR := Lib.hid (chkF_many (n := cs.length) hl)
    have hl' : (32 : Int) < (l.length : Int) := by omega
    go_enter Try.func25, Try.ntmps25
    go_wp2_with fail
    go_ret
    exact ⟨ret_int HR.out.symm, Below.refl _ _⟩
  have hl' : ¬ (32 : Int) < (l.length : Int) := by omega
  go_enter Try.func25, Try.ntmps25
  go_wp2_with fail
  go_loopw [5] (fun i wr => ∃ k : Nat, i = .int .i64 k ∧ k ≤ l.length ∧ Hid (∀ j (hj : j < l.length), j < k → okB cs.length l[j] = true) ∧ Hid (Below w.heap.size w wr)) (fun i _ => l.length - (intOf i).toNat)
  case atStart => exact ⟨0, rfl, Nat.zero_le _, Lib.hid (fun j _ h => absurd h (Nat.not_lt_zero _)), Lib.hid (Below.refl _ _)⟩
  case round =>
    obtain ⟨k, rfl, hk, HOK, HBR⟩ := hrel
    have ek : IntKind.i64.wrap ((k : Int) + 1) = ((k + 1 : Nat) : Int) := by rw [IntKind.wrap_i64]; omega
    by_cases hkl : k < l.length
    · obtain ⟨b5, o5, q5, e5, hlt5, d0, d1, d2, d3⟩ := (HX.out.below HBR.out).at hkl
      simp only [Value.slice.injEq, true_and] at e5
      obtain ⟨rfl, -⟩ := e5
      have HBAD : Hid (okB cs.length l[k] = false → chkF cs.length l = 5) := fun h => chkF_bad hl hkl h
      have HGO : Hid (okB cs.length l[k] = true → ∀ j (hj : j < l.length), j < k + 1 → okB cs.length l[j] = true) := fun h j hj hjk => by
        rcases Nat.lt_succ_iff_lt_or_eq.1 hjk with h' | rfl
        · exact HOK.out j hj h'
        · exact h
      generalize l[k] = s at *
      obtain ⟨sc, sk, sf, su⟩ := s
      simp only at d0 d1 d2 d3
      obtain ⟨vb, hvb⟩ : ∃ vb, validB ⟨sc, sk, sf, su⟩ = vb := ⟨_, rfl⟩
      cases vb with
      | true =>
        have v1 := hvb
        by_cases g1 : 0 ≤ sc
        · have g1' : ¬ sc < 0 := by omega
          by_cases g2 : sc < (cs.length : Int)
          · have g2' : ¬ (cs.length : Int) ≤ sc := by omega
            have HO : Hid (okB cs.length ⟨sc, sk, sf, su⟩ = true) := by show _ = _; unfold okB carB; simp [hvb, g1, g2]
            have HV := Lib.hid (valid_is ⟨sc, sk, sf, su⟩ true v1)
            have HOK2 := Lib.hid (HGO.out HO.out)
            clear HOK HO HBAD HGO v1
            go_wp2_with fail
            refine (HV.out _).mono ?_
            rintro e w2 ⟨rfl, hb2⟩
            have HB2 := Lib.hid (Below.to HBR.out hb2 HBR.out.size)
            have y0 := (hb2.cell (p := ⟨b5, o5 + k * 4, none⟩) hlt5).trans d0
            clear hb2
            go_wp2_with fail
            go_roundw
            case rel => exact ⟨k + 1, by go_num, by omega, HOK2, HB2⟩
            case measure => simp [intOf]; omega
          · have g2' : (cs.length : Int) ≤ sc := by omega
            have HO : Hid (okB cs.length ⟨sc, sk, sf, su⟩ = false) := by show _ = _; unfold okB carB; simp [g2]
            have HV := Lib.hid (valid_is ⟨sc, sk, sf, su⟩ true v1)
            have HR := Lib.hid (HBAD.out HO.out)
            clear HOK HO HBAD HGO v1
            go_wp2_with fail
            refine (HV.out _).mono ?_
            rintro e w2 ⟨rfl, hb2⟩
            have HB2 := Lib.hid (Below.to HBR.out hb2 HBR.out.size)
            have y0 := (hb2.cell (p := ⟨b5, o5 + k * 4, none⟩) hlt5).trans d0
            clear hb2
            go_wp2_with fail
            go_ret
            exact ⟨ret_int HR.out.symm, HB2.out⟩
        · have g1' : sc < 0 := by omega
          have HO : Hid (okB cs.length ⟨sc, sk, sf, su⟩ = false) := by show _ = _; unfold okB carB; simp [g1]
          have HV := Lib.hid (valid_is ⟨sc, sk, sf, su⟩ true v1)
          have HR := Lib.hid (HBAD.out HO.out)
          clear HOK HO HBAD HGO v1
          go_wp2_with fail
          refine (HV.out _).mono ?_
          rintro e w2 ⟨rfl, hb2⟩
          have HB2 := Lib.hid (Below.to HBR.out hb2 HBR.out.size)
          have y0 := (hb2.cell (p := ⟨b5, o5 + k * 4, none⟩) hlt5).trans d0
          clear hb2
          go_wp2_with fail
          go_ret
          exact ⟨ret_int HR.out.symm, HB2.out⟩
      | false =>
        have v1 := hvb
        have HO : Hid (okB cs.length ⟨sc, sk, sf, su⟩ = false) := by show _ = _; unfold okB carB; simp [hvb]
        have HV := Lib.hid (valid_is ⟨sc, sk, sf, su⟩ false v1)
        have HR := Lib.hid (HBAD.out HO.out)
        clear HOK HO HBAD HGO v1
        go_wp2_with fail
        refine (HV.out _).mono ?_
        rintro e w2 ⟨rfl, hb2⟩
        have HB2 := Lib.hid (Below.to HBR.out hb2 HBR.out.size)
        have y0 := (hb2.cell (p := ⟨b5, o5 + k * 4, none⟩) hlt5).trans d0
        clear hb2
        go_wp2_with fail
        go_ret
        exact ⟨ret_int HR.out.symm, HB2.out⟩
    · obtain rfl : k = l.length := by omega
      have HR : Hid (chkF cs.length l = 0) := chkF_ok hl (fun j hj => HOK.out j hj hj)
      go_wp2_with fail
      go_ret
      exact ⟨ret_int HR.out.symm, HBR.out⟩

end Go.Proofs.Ytbiedadgejgnoaa
