/-
  The program's Wrong and excess.
-/
import Derived.Test.YtbiedadgejgnoaaRtN
import Derived.Test.YtbiedadgejgnoaaRtM
import Derived.Test.YtbiedadgejgnoaaArd
import Derived.Deep.RegionHeld3
namespace Go.Proofs.Ytbiedadgejgnoaa
open Go.RowKit

theorem infoRt : (Try.prog.info? 30).map (fun i => (i.zero, i.size, i.bytes)) = some (some (.agg #[.int .i64 0, .int .i64 0, .int .i64 0, .int .i64 0]), 4, 32) := by kernel_rfl

theorem wrong_any (r : Ret) (d : Int) (w : World) : Calls Try.prog 15 #[.agg (litRt r), .int .i64 d] w fun e w' => e = .returned (.bool (wrongB r d)) ∧ Below w.heap.size w w' := by
  obtain ⟨c, k, f, u⟩ := r
  have HB : Hid (Below w.heap.size w (w.alloc (.cells #[.int .i64 c, .int .i64 k, .int .i64 f, .int .i64 u] 30))) := (Below.refl _ _).alloc (Nat.le_refl _) _
  show Calls Try.prog 15 #[.agg #[.int .i64 c, .int .i64 k, .int .i64 f, .int .i64 u], .int .i64 d] w _
  by_cases k1 : k = 1
  · subst k1
    by_cases h1 : d < f
    · have HR : Hid (wrongB ⟨c, 1, f, u⟩ d = true) := by show _ = _; rw [wrongB_1 rfl]; simp [h1]
      go_enter Try.func15, Try.ntmps15
      go_wp2
      go_ret
      exact ⟨by rw [HR.out]; rfl, HB.out⟩
    · have HR : Hid (wrongB ⟨c, 1, f, u⟩ d = (decide (d < f) || decide (u < d))) := by show _ = _; rw [wrongB_1 rfl]
      have h2 : f ≤ d := by omega
      clear h1
      go_enter Try.func15, Try.ntmps15
      go_wp2
      go_ret
      exact ⟨ret_bool HR.out.symm, HB.out⟩
  · have e1 : (k == 1) = false := by simpa using k1
    by_cases k2 : k = 2
    · subst k2
      by_cases h1 : 0 ≤ d
      · have HR : Hid (wrongB ⟨c, 2, f, u⟩ d = decide (d ≤ u)) := by show _ = _; rw [wrongB_2 rfl]; simp [h1]
        clear k1 e1
        go_enter Try.func15, Try.ntmps15
        go_wp2
        go_ret
        exact ⟨ret_bool HR.out.symm, HB.out⟩
      · have HR : Hid (wrongB ⟨c, 2, f, u⟩ d = false) := by show _ = _; rw [wrongB_2 rfl]; simp [h1]
        have h2 : d < 0 := by omega
        clear k1 e1 h1
        go_enter Try.func15, Try.ntmps15
        go_wp2
        go_ret
        exact ⟨by rw [HR.out]; rfl, HB.out⟩
    · have e2 : (k == 2) = false := by simpa using k2
      have HR : Hid (wrongB ⟨c, k, f, u⟩ d = decide (0 ≤ d)) := by show _ = _; rw [wrongB_3 k1 k2]
      clear k1 k2
      go_enter Try.func15, Try.ntmps15
      go_wp2
      go_ret
      exact ⟨ret_bool HR.out.symm, HB.out⟩

theorem wrong_is (r : Ret) (d : Int) (b : Bool) (h : wrongB r d = b) (w : World) : Calls Try.prog 15 #[.agg (litRt r), .int .i64 d] w fun e w' => e = .returned (.bool b) ∧ Below w.heap.size w w' := by
  rw [← h]; exact wrong_any r d w

/-! ### slices.Index -/
def IdxIs (xs : List Int) (v r : Int) : Prop := (r = -1 ∧ v ∉ xs) ∨ (∃ i : Nat, ∃ h : i < xs.length, r = (i : Int) ∧ xs[i] = v)

set_option maxHeartbeats 400000 in
theorem index_any (xs : List Int) (v : Value) (x : Int) (w : World) (hx : IsInts w v xs) :
    Calls Try.prog 58 #[v, .int .i64 x] w fun e w' => ∃ r, e = .returned (.int .i64 r) ∧ Hid (IdxIs xs x r) ∧ w = w' := by
  obtain ⟨a, cap, rfl, hm, -, hc⟩ := hx.open
  unfold maxLen at hm
  have HC := Lib.hid hc
  clear hx hc
  go_enter Try.func58, Try.ntmps58
  go_wp2_with fail
  go_loop [8] (fun i => ∃ k : Nat, i = .int .i64 k ∧ k ≤ xs.length ∧ Hid (∀ j (h : j < xs.length), j < k → xs[j] ≠ x)) (fun i => xs.length - (intOf i).toNat)
  case atStart => exact ⟨0, rfl, Nat.zero_le _, Lib.hid (fun j _ h => absurd h (Nat.not_lt_zero _))⟩
  case round =>
    obtain ⟨k, rfl, hk, HN⟩ := hrel
    by_cases hkl : k < xs.length
    · obtain ⟨b, off, rfl, c0⟩ := HC.out k hkl
      by_cases he : xs[k] = x
      · have HR : Hid (IdxIs xs x (k : Int)) := .inr ⟨k, hkl, rfl, he⟩
        rw [he] at c0
        clear HN
        go_wp2_with fail
        go_ret
        exact ⟨_, rfl, HR, rfl⟩
      · have HN2 : Hid (∀ j (h : j < xs.length), j < k + 1 → xs[j] ≠ x) := fun j hj hjk => by
          rcases Nat.lt_succ_iff_lt_or_eq.1 hjk with h' | rfl
          · exact HN.out j hj h'
          · exact he
        have hb : (x == xs[k]) = false := by simp; omega
        clear HN he
        generalize xs[k] = y at *
        go_wp2_with fail
        go_round
        case rel => exact ⟨k + 1, by go_num, by omega, HN2⟩
        case measure => simp [intOf]; omega
    · obtain rfl : k = xs.length := by omega
      have HR : Hid (IdxIs xs x (-1)) := .inl ⟨rfl, fun hm => by
        obtain ⟨j, hj, hjx⟩ := List.mem_iff_getElem.1 hm
        exact HN.out j hj hj hjx⟩
      clear HN
      go_wp2_with fail
      go_ret
      exact ⟨_, rfl, HR, rfl⟩

/-! ### an array of numbers in a block -/
structure Arr (w : World) (B : Nat) (N : List Int) : Prop where
  cell : ∀ i (h : i < N.length), w.cell? ⟨B, i, none⟩ = some (.int .i64 N[i])
  frozen : ∀ i, i < N.length → w.frozen? ⟨B, i, none⟩ = false

theorem Arr.below {w w' : World} {B A : Nat} {N : List Int} (h : Arr w B N) (hb : Below A w w') (hlt : B < A) : Arr w' B N :=
  ⟨fun i hi => (hb.cell (p := ⟨B, i, none⟩) hlt).trans (h.cell i hi), fun i hi => (hb.frozen (p := ⟨B, i, none⟩) hlt).trans (h.frozen i hi)⟩
theorem Arr.other {w : World} {B B' : Nat} {N : List Int} (h : Arr w B N) (hne : B ≠ B') (i : Nat) (u : Value) : Arr (w.setCell ⟨B', i, none⟩ u) B N :=
  ⟨fun j hj => by rw [World.cell?_setCell_far _ _ _ _ (fun e => hne e.symm)]; exact h.cell j hj, fun j hj => by rw [World.frozen?_setCell]; exact h.frozen j hj⟩

theorem Arr.set {w : World} {B i : Nat} {N : List Int} (h : Arr w B N) (hi : i < N.length) (x : Int) : Arr (w.setCell ⟨B, i, none⟩ (.int .i64 x)) B (N.set i x) := by
  refine ⟨fun j hj => ?_, fun j hj => ?_⟩
  · rw [List.length_set] at hj
    by_cases e : i = j
    · subst e
      rw [World.cell?_setCell_same _ _ _ (h.cell i hi), List.getElem_set_self]
    · rw [World.cell?_setCell_other _ _ _ _ (by simp), List.getElem_set_ne e]
      exact h.cell j hj
  · rw [List.length_set] at hj
    rw [World.frozen?_setCell]
    exact h.frozen j hj
theorem Arr.slice {w : World} {B n : Nat} {N : List Int} (h : Arr w B N) (hn : n ≤ N.length) (hm : N.length ≤ 1000) : IsInts w (.slice (some ⟨B, 0, none⟩) n N.length) (N.take n) := by
  have hl : (N.take n).length = n := by rw [List.length_take]; omega
  refine ⟨by simp [ints], by unfold maxLen; omega, some ⟨B, 0, none⟩, N.length, by rw [hl], by omega, fun j u hu => ⟨B, 0, rfl, ?_⟩⟩
  have hj : j < n := by
    have := (List.getElem?_eq_some_iff.1 hu).1
    simp [ints] at this
    omega
  rw [Nat.zero_add, h.cell j (by omega)]
  simp [ints, hj] at hu
  rw [List.getElem?_eq_getElem (by omega)] at hu
  simpa using hu

theorem Arr.drewN {w : World} {B : Nat} {N : List Int} (h : Arr w B N) (q : Nat) : Arr (w.drewN q) B N :=
  ⟨fun i hi => by have := h.cell i hi; simpa using this, fun i hi => by have := h.frozen i hi; simpa using this⟩

theorem Arr.new (w : World) (N : List Int) (T : TypeId) : Arr (w.alloc (.cells (N.map (Value.int .i64)).toArray T)) w.heap.size N :=
  ⟨fun i hi => by rw [cells_alloc w]; simp [hi], fun i _ => by simp⟩

theorem exAt_B {l : List Ret} {cs : List (Int × Int)} {d x : Int} (hl : l.length ≤ 32) (hc : CarOk cs) : 0 ≤ exAt l cs d x ∧ exAt l cs d x ≤ 32 := by
  have h1 := nW_le l x d
  unfold exAt
  have h2 : 0 ≤ (cs.getD x.toNat (0, 0)).2 := by
    rw [List.getD_eq_getElem?_getD]
    by_cases h : x.toNat < cs.length
    · rw [List.getElem?_eq_getElem h]; exact (hc _ (List.getElem_mem h)).1
    · rw [List.getElem?_eq_none (by omega)]; simp
  omega

theorem sum_take {f : Int → Int} {xs : List Int} {j : Nat} (h : j < xs.length) : ((xs.take (j + 1)).map f).sum = ((xs.take j).map f).sum + f xs[j] := by
  rw [List.take_succ_eq_append_getElem h, List.map_append, List.sum_append]
  simp

set_option maxHeartbeats 4000000 in
set_option maxRecDepth 100000 in
theorem excess_any (l : List Ret) (cs : List (Int × Int)) (v u : Value) (d : Int) (w : World) (hx : IsRts w v l) (hy : IsSps w u cs) (hl : l.length ≤ 32) (hr : RetsOk cs.length l) (hc : CarOk cs) :
    Calls Try.prog 33 #[v, u, .int .i64 d] w fun e w' => e = .returned (.int .i64 (excF l cs d)) ∧ Below w.heap.size w w' := by
  have HX := Lib.hid hx
  have HY := Lib.hid hy
  have HR := Lib.hid hr
  have HCO := Lib.hid hc
  obtain ⟨a0, c0, rfl, -, -⟩ := hx.open
  obtain ⟨a1, c1, rfl, -, -, -⟩ := hy.open
  have H0 := Lib.hid (NmAt.start l d)
  clear hx hy hr hc
  go_enter Try.func33, Try.ntmps33
  go_wp2_with fail
  obtain ⟨W0, hW0⟩ : ∃ W0, W0 = (w.alloc (.cells #[.int .i64 0, .int .i64 0, .int .i64 0, .int .i64 0, .int .i64 0, .int .i64 0, .int .i64 0, .int .i64 0, .int .i64 0, .int .i64 0, .int .i64 0, .int .i64 0, .int .i64 0, .int .i64 0, .int .i64 0, .int .i64 0, .int .i64 0, .int .i64 0, .int .i64 0, .int .i64 0, .int .i64 0, .int .i64 0, .int .i64 0, .int .i64 0, .int .i64 0, .int .i64 0, .int .i64 0, .int .i64 0, .int .i64 0, .int .i64 0, .int .i64 0, .int .i64 0] 92)).alloc (.cells #[.int .i64 0, .int .i64 0, .int .i64 0, .int .i64 0, .int .i64 0, .int .i64 0, .int .i64 0, .int .i64 0, .int .i64 0, .int .i64 0, .int .i64 0, .int .i64 0, .int .i64 0, .int .i64 0, .int .i64 0, .int .i64 0, .int .i64 0, .int .i64 0, .int .i64 0, .int .i64 0, .int .i64 0, .int .i64 0, .int .i64 0, .int .i64 0, .int .i64 0, .int .i64 0, .int .i64 0, .int .i64 0, .int .i64 0, .int .i64 0, .int .i64 0, .int .i64 0] 92) := ⟨_, rfl⟩
  have hz : (#[.int .i64 0, .int .i64 0, .int .i64 0, .int .i64 0, .int .i64 0, .int .i64 0, .int .i64 0, .int .i64 0, .int .i64 0, .int .i64 0, .int .i64 0, .int .i64 0, .int .i64 0, .int .i64 0, .int .i64 0, .int .i64 0, .int .i64 0, .int .i64 0, .int .i64 0, .int .i64 0, .int .i64 0, .int .i64 0, .int .i64 0, .int .i64 0, .int .i64 0, .int .i64 0, .int .i64 0, .int .i64 0, .int .i64 0, .int .i64 0, .int .i64 0, .int .i64 0] : Array Value) = ((List.replicate 32 (0 : Int)).map (Value.int .i64)).toArray := rfl
  have hA1 : Arr W0 w.heap.size (List.replicate 32 0) := by
    rw [hW0, hz]
    exact (Arr.new w _ _).below ((Below.refl _ _).alloc (Nat.le_refl _) _) (by rw [World.size_alloc]; omega)
  have hA2 : Arr W0 (w.heap.size + 1) (List.replicate 32 0) := by
    rw [hW0, hz, ← World.size_alloc w (.cells ((List.replicate 32 (0 : Int)).map (Value.int .i64)).toArray 92)]
    exact Arr.new _ _ _
  have hBW : Below w.heap.size w W0 := by rw [hW0]; exact ((Below.refl _ _).alloc (Nat.le_refl _) _).alloc (by simp) _
  have hSW : W0.heap.size = w.heap.size + 2 := by rw [hW0]; simp
  rw [← hW0]
  have HA1 := Lib.hid hA1
  have HA2 := Lib.hid hA2
  have HBW := Lib.hid hBW
  clear hW0 hz hA1 hA2 hBW
  go_loopw [9, 18] (fun a i wr => ∃ (k n : Nat) (N Wr : List Int), a = .int .i64 n ∧ i = .int .i64 k ∧ k ≤ l.length ∧ Hid (NmAt l d k n N Wr) ∧ Hid (Arr wr w.heap.size Wr) ∧ Hid (Arr wr (w.heap.size + 1) N) ∧ Hid (Below w.heap.size W0 wr)) (fun _ i _ => l.length - (intOf i).toNat)
  case atStart => exact ⟨0, 0, _, _, rfl, rfl, Nat.zero_le _, H0, HA1, HA2, Lib.hid (Below.refl _ _)⟩
  case round =>
    obtain ⟨k, n, N, Wr, rfl, rfl, hk, HNM, HWR, HNA, HBR⟩ := hrel
    by_cases hkl : k < l.length
    · have HB1 := Lib.hid (HBW.out.trans HBR.out)
      obtain ⟨b5, o5, q5, e5, hlt5, d0, d1, d2, d3⟩ := (HX.out.below HB1.out).at hkl
      simp only [Value.slice.injEq, true_and] at e5
      obtain ⟨rfl, -⟩ := e5
      have hsz : w.heap.size + 2 ≤ wr.heap.size := by have := HBR.out.size; omega
      have hnk := HNM.out.nk
      have hNl := HNM.out.nlen
      have hWl := HNM.out.wlen
      have hr3 : (HR.out l[k] (List.getElem_mem hkl)).1 = (HR.out l[k] (List.getElem_mem hkl)).1 := rfl
      by_cases hw : wrongB l[k] d = true
      · have HOLD : Hid (∀ i (hi : i < n) (hiN : i < N.length) (hiW : i < Wr.length), N[i] = l[k].car → NmAt l d (k + 1) n N (Wr.set i (Wr[i] + 1))) := fun i hi hiN hiW he => HNM.out.old hkl hw hi hiN hiW he
        have HNEW : Hid (l[k].car ∉ N.take n → ∀ hnW : n < Wr.length, NmAt l d (k + 1) (n + 1) (N.set n l[k].car) (Wr.set n (Wr[n] + 1))) := fun hno hnW => HNM.out.new hkl hw (by omega) hno hnW
        have HWB : Hid (∀ i (hi : i < Wr.length), 0 ≤ Wr[i] ∧ Wr[i] ≤ 32) := fun i hi => by
          by_cases hin : i < n
          · rw [HNM.out.cnt i (by omega) hi hin]
            have := nW_le (l.take k) (N[i]'(by omega)) d
            rw [List.length_take] at this
            omega
          · rw [HNM.out.rest i hi (by omega)]; omega
        have HWC := Lib.hid (wrong_is l[k] d true hw)
        clear HNM hw hr3
        generalize l[k] = s at *
        obtain ⟨sc, sk, sf, su⟩ := s
        simp only at d0 d1 d2 d3 HOLD HNEW
        go_wp2_with fail
        refine (HWC.out _).mono ?_
        rintro e w2 ⟨rfl, hb2⟩
        have hcc : ∀ o, w2.cell? ⟨wr.heap.size, o, none⟩ = (#[Value.int .i64 sc, .int .i64 sk, .int .i64 sf, .int .i64 su] : Array Value)[o]? := fun o => by
          rw [hb2.cell (by simp)]; simp
        have f0 := hcc 0
        simp at f0
        have hbw : Below wr.heap.size wr w2 := Below.to ((Below.refl _ _).alloc (Nat.le_refl _) _) hb2 (by simp)
        have HW2 := Lib.hid (HWR.out.below hbw (by omega))
        have HN2 := Lib.hid (HNA.out.below hbw (by omega))
        have HB2 := Lib.hid (Below.to HBR.out hbw (by omega))
        have HSL := Lib.hid (HN2.out.slice (n := n) (by omega) (by omega))
        rw [hNl] at HSL
        have hs2 : wr.heap.size < w2.heap.size := by have := hb2.size; simp at this; omega
        have hn32 : (n : Int) ≤ 32 := by omega
        clear hcc hbw hb2 HWR HNA HBR
        go_wp2_with fail
        go_region_held3 (fun w' => w'.cell? ⟨wr.heap.size, 0, none⟩ = some (.int .i64 sc))
          (first | exact f0 | go_keep)
          (first
            | (go_at_call 58
               refine (index_any (N.take n) _ sc _ (HSL.out.below (below_drewN (Below.refl _ _) _))).mono ?_
               rintro e w' ⟨r, rfl, HIX, rfl⟩))
        rcases HIX.out with ⟨rfl, hno⟩ | ⟨i, hi, rfl, hiN⟩
        · have hnW : n < Wr.length := by omega
          have HNN := Lib.hid (HNEW.out hno hnW)
          have y0 := HW2.out.cell n hnW
          have y1 := HW2.out.frozen n hnW
          have z0 := HN2.out.cell n (by omega)
          have z1 := HN2.out.frozen n (by omega)
          have hyB := HWB.out n hnW
          have hnN : n < N.length := by omega
          have HST : Hid (∀ q, Arr (((w2.drewN q).setCell ⟨w.heap.size + 1, n, none⟩ (.int .i64 sc)).setCell ⟨w.heap.size, n, none⟩ (.int .i64 (Wr[n] + 1))) w.heap.size (Wr.set n (Wr[n] + 1)) ∧ Arr (((w2.drewN q).setCell ⟨w.heap.size + 1, n, none⟩ (.int .i64 sc)).setCell ⟨w.heap.size, n, none⟩ (.int .i64 (Wr[n] + 1))) (w.heap.size + 1) (N.set n sc) ∧
              Below w.heap.size W0 (((w2.drewN q).setCell ⟨w.heap.size + 1, n, none⟩ (.int .i64 sc)).setCell ⟨w.heap.size, n, none⟩ (.int .i64 (Wr[n] + 1)))) := fun q =>
            ⟨((HW2.out.drewN q).other (by omega) _ _).set hnW _, ((HN2.out.drewN q).set hnN _).other (by omega) _ _, ((below_drewN HB2.out q).setCell (by simp) _).setCell (by simp) _⟩
          generalize N[n] = zz at *
          generalize Wr[n] = yy at *
          obtain ⟨hy1, hy2⟩ := hyB
          have hwy : IntKind.i64.wrap (yy + 1) = yy + 1 := by rw [IntKind.wrap_i64]; omega
          clear HOLD HNEW HWB HIX HW2 HN2 HB2 hno HSL
          go_wp2_with fail
          go_roundw
          case rel => exact ⟨k + 1, n + 1, _, _, by go_num, by go_num, by omega, HNN, Lib.hid (HST.out 1).1, Lib.hid (HST.out 1).2.1, Lib.hid (HST.out 1).2.2⟩
          case measure => simp [intOf]; omega
        · have hin : i < n := by rw [List.length_take] at hi; omega
          have hiW : i < Wr.length := by omega
          have hiN2 : i < N.length := by omega
          rw [List.getElem_take] at hiN
          have HNN := Lib.hid (HOLD.out i hin hiN2 hiW hiN)
          have y0 := HW2.out.cell i hiW
          have y1 := HW2.out.frozen i hiW
          have hyB := HWB.out i hiW
          have HST : Hid (∀ q, Arr ((w2.drewN q).setCell ⟨w.heap.size, i, none⟩ (.int .i64 (Wr[i] + 1))) w.heap.size (Wr.set i (Wr[i] + 1)) ∧ Arr ((w2.drewN q).setCell ⟨w.heap.size, i, none⟩ (.int .i64 (Wr[i] + 1))) (w.heap.size + 1) N ∧
              Below w.heap.size W0 ((w2.drewN q).setCell ⟨w.heap.size, i, none⟩ (.int .i64 (Wr[i] + 1)))) := fun q =>
            ⟨(HW2.out.drewN q).set hiW _, (HN2.out.drewN q).other (by omega) _ _, (below_drewN HB2.out q).setCell (by simp) _⟩
          generalize Wr[i] = yy at *
          obtain ⟨hy1, hy2⟩ := hyB
          have hwy : IntKind.i64.wrap (yy + 1) = yy + 1 := by rw [IntKind.wrap_i64]; omega
          have hi32 : (i : Int) < 32 := by omega
          clear HOLD HNEW HWB HIX HW2 HN2 HB2 HSL hiN hi
          go_wp2_with fail
          go_roundw
          case rel => exact ⟨k + 1, n, _, _, rfl, by go_num, by omega, HNN, Lib.hid (HST.out 1).1, Lib.hid (HST.out 1).2.1, Lib.hid (HST.out 1).2.2⟩
          case measure => simp [intOf]; omega
      · have HNN := Lib.hid (HNM.out.right hkl (by simpa using hw))
        have HWC := Lib.hid (wrong_is l[k] d false (by simpa using hw))
        clear HNM hw hr3
        generalize l[k] = s at *
        obtain ⟨sc, sk, sf, su⟩ := s
        simp only at d0 d1 d2 d3
        go_wp2_with fail
        refine (HWC.out _).mono ?_
        rintro e w2 ⟨rfl, hb2⟩
        have hbw : Below wr.heap.size wr w2 := Below.to ((Below.refl _ _).alloc (Nat.le_refl _) _) hb2 (by simp)
        have HW2 := Lib.hid (HWR.out.below hbw (by omega))
        have HN2 := Lib.hid (HNA.out.below hbw (by omega))
        have HB2 := Lib.hid (Below.to HBR.out hbw (by omega))
        clear hbw hb2 HWR HNA HBR
        go_wp2_with fail
        go_roundw
        case rel => exact ⟨k + 1, n, N, Wr, rfl, by go_num, by omega, HNN, HW2, HN2, HB2⟩
        case measure => simp [intOf]; omega
    · obtain rfl : k = l.length := by omega
      have hnk := HNM.out.nk
      have hNl := HNM.out.nlen
      have hWl := HNM.out.wlen
      have HSUM := Lib.hid (HNM.out.sum HR.out HCO.out)
      have HCNT : Hid (∀ j (hj : j < n) (h1 : j < N.length) (h2 : j < Wr.length), Wr[j] = (nW l N[j] d : Int) ∧ (0 ≤ N[j] ∧ N[j] < cs.length)) := fun j hj h1 h2 => by
        refine ⟨by rw [HNM.out.cnt j h1 h2 hj, List.take_length], ?_⟩
        obtain ⟨r, hr, he⟩ := HNM.out.from_ N[j] (take_get hj h1)
        rw [← he]
        exact (HR.out r hr).1
      have HB2 := Lib.hid (HBW.out.trans HBR.out)
      have hln : (N.take n).length = n := by rw [List.length_take]; omega
      have hs2 : w.heap.size + 2 ≤ wr.heap.size := by have := HBR.out.size; omega
      clear HNM HBR
      obtain ⟨wo, rfl⟩ : ∃ wo : World, wo = wr := ⟨_, rfl⟩
      have HWW := HWR
      have HNN := HNA
      have hn32 : (n : Int) ≤ 32 := by omega
      clear HWR HNA
      go_wp2_with fail
      go_loopw [13, 49] (fun a i wq => ∃ (j : Nat) (t : Int), a = .int .i64 t ∧ i = .int .i64 j ∧ j ≤ n ∧ 0 ≤ t ∧ t ≤ 32 * (j : Int) ∧ Hid (t = (((N.take n).take j).map (exAt l cs d)).sum) ∧ Hid (Below wo.heap.size wo wq)) (fun _ i _ => n - (intOf i).toNat)
      case atStart => exact ⟨0, 0, rfl, rfl, Nat.zero_le _, Int.le_refl _, by omega, Lib.hid rfl, Lib.hid (Below.refl _ _)⟩
      case round =>
        obtain ⟨j, t, rfl, rfl, hj, ht0, ht1, HT, HBQ⟩ := hrel
        by_cases hjn : j < n
        · have hjN : j < N.length := by omega
          have hjW : j < Wr.length := by omega
          obtain ⟨g1, g2, g3⟩ := HCNT.out j hjn hjN hjW
          have HST : Hid ((((N.take n).take (j + 1)).map (exAt l cs d)).sum = t + exAt l cs d N[j]) := by
            show _ = _
            rw [sum_take (by omega), ← HT.out, List.getElem_take]
          have z0 := (HBQ.out.cell (p := ⟨w.heap.size + 1, j, none⟩) (by show w.heap.size + 1 < wo.heap.size; omega)).trans (HNN.out.cell j hjN)
          have y0 := (HBQ.out.cell (p := ⟨w.heap.size, j, none⟩) (by show w.heap.size < wo.heap.size; omega)).trans (HWW.out.cell j hjW)
          have heB := exAt_B (x := N[j]) (d := d) hl HCO.out
          obtain ⟨cn, hcn⟩ := Int.eq_ofNat_of_zero_le g2
          rw [hcn] at z0 g3 HST heB g1
          have hcl : cn < cs.length := by omega
          obtain ⟨b6, o6, q6, e6, -, -, x1⟩ := ((HY.out.below HB2.out).below HBQ.out).at hcl
          simp only [Value.slice.injEq, true_and] at e6
          obtain ⟨rfl, -⟩ := e6
          have htol := HCO.out cs[cn] (List.getElem_mem hcl)
          have HEX : Hid (exAt l cs d (cn : Int) = max 0 (Wr[j] - cs[cn].2)) := by
            show _ = _
            unfold exAt
            rw [g1, Int.toNat_natCast, List.getD_eq_getElem?_getD, List.getElem?_eq_getElem hcl]
            rfl
          have hyB : 0 ≤ Wr[j] ∧ Wr[j] ≤ 32 := by
            rw [g1]
            have := nW_le l (cn : Int) d
            omega
          rw [HEX.out] at HST heB
          generalize cs[cn] = cc at *
          obtain ⟨c1', tol⟩ := cc
          simp only at x1 htol HST HEX heB
          generalize Wr[j] = yy at *
          generalize N[j] = zz at *
          obtain ⟨hy1, hy2⟩ := hyB
          obtain ⟨ht2, ht3⟩ := htol
          have e1 : IntKind.i64.wrap (yy - tol) = yy - tol := by rw [IntKind.wrap_i64]; omega
          have e2 : IntKind.i64.wrap (t + max 0 (yy - tol)) = t + max 0 (yy - tol) := by rw [IntKind.wrap_i64]; omega
          have HT2 : Hid (t + max 0 (yy - tol) = (((N.take n).take (j + 1)).map (exAt l cs d)).sum) := HST.out.symm
          have hcb : (cn : Int) < (cs.length : Int) := by omega
          have hj32 : (j : Int) < 32 := by omega
          clear HST HEX g1 hcn g2 HT
          go_wp2_with fail
          go_quiet (fail)
          all_goals
            have HB9 := Lib.hid (below_drewN HBQ.out nq)
            go_wp2_with fail
            go_roundw
            case rel => exact ⟨j + 1, t + max 0 (yy - tol), by rw [show t + max 0 (yy - tol) = t + (if tol < yy then yy - tol else 0) from by split <;> omega], by go_num, by omega, by omega, by omega, HT2, HB9⟩
            case measure => simp [intOf]; omega
        · obtain rfl : j = n := by omega
          have HF : Hid (t = excF l cs d) := by
            show _ = _
            rw [HT.out, List.take_of_length_le (by omega), HSUM.out]
          clear HT HSUM
          go_wp2_with fail
          go_ret
          exact ⟨ret_int HF.out, Below.to HB2.out HBQ.out (by omega)⟩

end Go.Proofs.Ytbiedadgejgnoaa
