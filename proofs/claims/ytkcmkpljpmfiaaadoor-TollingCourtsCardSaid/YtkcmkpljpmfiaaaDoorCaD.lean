/-
  Package calendar: Next, Count.
-/
import Derived.Test.YtkcmkpljpmfiaaaDoorCaC
import Derived.Test.YtkcmkpljpmfiaaaDoorPkA
namespace Go.Proofs.YtkcmkpljpmfiaaaDoor
open Go.RowKit

set_option maxHeartbeats 1000000 in
set_option maxRecDepth 100000 in
theorem next_day_any (wk : Nat → Bool) (hs : List Hol) (cl : List Clo) (hv cv x9 x10 x11 : Value) (K d : Int) (w : World) (hh : IsHos w hv hs) (hc : IsCls w cv cl)
    (hi : ∀ h ∈ hs, HolIn h) (hl : hs.length ≤ 10) (hcl : cl.length ≤ 10) (hT : Tabs w) (hd : 739500 ≤ d ∧ d ≤ 740000) (e : Int) (he1 : d ≤ e) (he2 : e ≤ 740000) (heo : shutF wk hs cl K e = false) :
    Calls Tryd.prog 7 #[.agg (calE wk hv cv x9 x10 x11), .int .i64 d, .int .i64 K] w fun ex w' => (∃ r, ex = .returned (.tuple #[.int .i64 r, .int .i64 0]) ∧ d ≤ r ∧ r ≤ e ∧ shutF wk hs cl K r = false ∧ ∀ x, d ≤ x → x < r → shutF wk hs cl K x = true) ∧ Below w.heap.size w w' := by
  have hb1 : Below w.heap.size w (w.alloc (.cells (calE wk hv cv x9 x10 x11) 30)) := (Below.refl _ _).alloc (Nat.le_refl _) _
  have HF := Lib.hid (first_day_any wk hs cl hv cv x9 x10 x11 K d _ (hh.below hb1) (hc.below hb1) hi hl hcl (hT.below hb1) hd e he1 he2 heo)
  have HB1 := Lib.hid hb1
  clear hh hc hi hT hd heo hb1
  unfold calE at HF HB1 ⊢
  go_enter Tryd.func7, Tryd.ntmps7
  go_wp2_with fail
  refine HF.out.mono ?_
  rintro ex w2 ⟨⟨r, rfl, f1, f2, f3, f4⟩, hb2⟩
  have HF3 := Lib.hid f3
  have HF4 := Lib.hid f4
  have HB2 := Lib.hid (Below.to HB1.out hb2 HB1.out.size)
  clear HF HB1 hb2 f3 f4
  go_wp2_with fail
  go_ret2
  exact ⟨⟨r, rfl, f1, f2, HF3.out, HF4.out⟩, HB2.out⟩

set_option maxHeartbeats 1000000 in
set_option maxRecDepth 100000 in
theorem count_any (wk : Nat → Bool) (hs : List Hol) (cl : List Clo) (hv cv x9 x10 x11 : Value) (K f u : Int) (n : Nat) (w : World) (hh : IsHos w hv hs) (hc : IsCls w cv cl)
    (hi : ∀ h ∈ hs, HolIn h) (hl : hs.length ≤ 10) (hcl : cl.length ≤ 10) (hT : Tabs w) (hf : 739500 ≤ f) (hu : u ≤ 740000) (hn : (n : Int) = u - f + 1) :
    Calls Tryd.prog 8 #[.agg (calE wk hv cv x9 x10 x11), .int .i64 f, .int .i64 u, .int .i64 K] w fun e w' => e = .returned (.int .i64 (cntUp (fun d => !shutF wk hs cl K d) f n)) ∧ Below w.heap.size w w' := by
  obtain ⟨B, hB⟩ : ∃ B, B = w.heap.size := ⟨_, rfl⟩
  obtain ⟨W1, hW1⟩ : ∃ W1, W1 = ((w.alloc (.cells (calE wk hv cv x9 x10 x11) 30)).alloc (.cells (calE wk hv cv x9 x10 x11) 30)).alloc (.cells #[.int .i64 K] 3) := ⟨_, rfl⟩
  have hb1 : Below B w W1 := by rw [hW1, hB]; exact (((Below.refl _ _).alloc (Nat.le_refl _) _).alloc (by simp) _).alloc (by simp; omega) _
  have hsz : W1.heap.size = B + 3 := by rw [hW1, hB]; simp
  have q1 : W1.heap[B + 1]? = some (.cells (calE wk hv cv x9 x10 x11) 30) := by
    have h := heap_alloc_new (w.alloc (.cells (calE wk hv cv x9 x10 x11) 30)) (.cells (calE wk hv cv x9 x10 x11) 30)
    rw [World.size_alloc, ← hB] at h
    rw [hW1]
    exact (Below.heap_alloc _ _ _ (by simp; omega)).trans h
  have q2 : W1.heap[B + 2]? = some (.cells #[.int .i64 K] 3) := by
    have h := heap_alloc_new ((w.alloc (.cells (calE wk hv cv x9 x10 x11) 30)).alloc (.cells (calE wk hv cv x9 x10 x11) 30)) (.cells #[.int .i64 K] 3)
    rw [World.size_alloc, World.size_alloc, ← hB, ← hW1] at h
    exact h
  have hbw : Below w.heap.size w W1 := hB ▸ hb1
  have hca : CalAt W1 (B + 1) wk hs cl hv cv := ⟨fun j hj => by
      unfold calE at q1
      match j, hj with
      | 0, _ => simp [World.cell?, q1]
      | 1, _ => simp [World.cell?, q1]
      | 2, _ => simp [World.cell?, q1]
      | 3, _ => simp [World.cell?, q1]
      | 4, _ => simp [World.cell?, q1]
      | 5, _ => simp [World.cell?, q1]
      | 6, _ => simp [World.cell?, q1], by unfold calE at q1; simp [World.cell?, q1], by unfold calE at q1; simp [World.cell?, q1], hh.below hbw, hc.below hbw⟩
  have c2 : W1.cell? ⟨B + 2, 0, none⟩ = some (.int .i64 K) := by simp [World.cell?, q2]
  have HSH : Hid (∀ W d, Below W1.heap.size W1 W → 739500 ≤ d → d ≤ 740000 → Calls Tryd.prog 25 #[.int .i64 d, .pointer (some ⟨B + 1, 0, none⟩), .pointer (some ⟨B + 2, 0, none⟩)] W fun e w' => e = .returned (.bool (shutF wk hs cl K d)) ∧ Below W.heap.size W w') := fun W d hW h1 h2 =>
    shut1_any (B + 1) (B + 2) wk hs cl hv cv K d W (hca.below hW) ((hW.cell (p := ⟨B + 2, 0, none⟩) (by show B + 2 < _; omega)).trans c2) hi hl hcl (hT.below (hbw.trans (hW.mono (by omega)))) ⟨h1, h2⟩
  have HW1 := Lib.hid hW1
  have HBB := Lib.hid hB
  have HB1 := Lib.hid hbw
  have HSZ := Lib.hid hsz
  obtain ⟨opn, hop⟩ : ∃ opn : Int → Bool, opn = fun d => !shutF wk hs cl K d := ⟨_, rfl⟩
  have HOP : Hid (∀ d, shutF wk hs cl K d = !opn d) := fun d => by rw [hop]; simp
  rw [← hop]
  clear hh hc hi hT hW1 hB hb1 hsz q1 q2 hca c2 hbw hop
  go_enter Tryd.func8, Tryd.ntmps8
  unfold calE at HW1 ⊢
  go_wp2_with (go_at_call 15; refine (shut_any wk hv cv x9 x10 x11 K _).mono ?_; rintro e w' ⟨rfl, rfl⟩; unfold calE)
  rw [← HW1.out, ← HBB.out]
  go_loopw [10, 11] (fun c i wr => ∃ k : Nat, i = .int .i64 (f + (k : Int)) ∧ k ≤ n ∧ c = .int .i64 (cntUp opn f k) ∧ Hid (Below W1.heap.size W1 wr)) (fun _ i _ => (u + 1 - intOf i).toNat)
  case atStart => exact ⟨0, by simp, Nat.zero_le _, rfl, Lib.hid (Below.refl _ _)⟩
  case round =>
    obtain ⟨k, rfl, hk, rfl, HB⟩ := hrel
    have hcp := cntUp_pos opn f k
    by_cases hlt : f + (k : Int) ≤ u
    · have HS := Lib.hid (HSH.out wr (f + (k : Int)) HB.out (by omega) (by omega))
      rw [HOP.out] at HS
      have hst : Hid (cntUp opn f (k + 1) = cntUp opn f k + if opn (f + k) = true then 1 else 0) := rfl
      obtain ⟨b, hb⟩ : ∃ b, opn (f + (k : Int)) = b := ⟨_, rfl⟩
      rw [hb] at HS hst
      obtain ⟨C, hC⟩ : ∃ C, cntUp opn f k = C := ⟨_, rfl⟩
      rw [hC] at hst hcp ⊢
      clear hC hb
      go_wp2_with (go_at_call 16; refine (cwithin_any _ _ (by omega) (by omega)).mono ?_; rintro e w' ⟨rfl, h9⟩; obtain rfl := h9.symm)
      refine HS.out.mono ?_
      rintro e w2 ⟨rfl, hb2⟩
      have HB2 := Lib.hid (Below.to HB.out hb2 HB.out.size)
      clear HS hb2 HB HSH HOP
      cases b
      · have hst2 : Hid (C = cntUp opn f (k + 1)) := by show _ = _; rw [hst.out]; simp
        go_wp2_with fail
        go_roundw
        case rel => exact ⟨k + 1, by go_num, by omega, by rw [hst2.out], HB2⟩
        case measure => simp [intOf]; omega
      · have hst2 : Hid (C + 1 = cntUp opn f (k + 1)) := by show _ = _; rw [hst.out]; simp
        go_wp2_with fail
        go_roundw
        case rel => exact ⟨k + 1, by go_num, by omega, by rw [hst2.out], HB2⟩
        case measure => simp [intOf]; omega
    · have hkn : k = n := by omega
      have HBZ := Lib.hid (Below.to HB1.out HB.out HB1.out.size)
      clear HSH HOP
      go_wp2_with fail
      go_ret
      exact ⟨rfl, HBZ.out⟩

end Go.Proofs.YtkcmkpljpmfiaaaDoor
