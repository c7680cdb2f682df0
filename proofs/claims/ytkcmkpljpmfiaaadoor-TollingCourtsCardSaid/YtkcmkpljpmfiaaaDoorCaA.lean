/-
  Package calendar: is a day shut (shut$1).
-/
import Derived.Test.YtkcmkpljpmfiaaaDoorHoN
namespace Go.Proofs.YtkcmkpljpmfiaaaDoor
open Go.RowKit

/-- A closure: from, until, known. -/
structure Clo where
  f : Int
  u : Int
  k : Int
deriving Inhabited
def clE (c : Clo) : List Value := [.int .i64 c.f, .int .i64 c.u, .int .i64 c.k]
theorem clE_len (c : Clo) : (clE c).length = 3 := rfl
def IsCls (w : World) (v : Value) (l : List Clo) : Prop := Rd w v 3 l.length (enC clE l)
theorem IsCls.below {w w' : World} {v : Value} {l : List Clo} (h : IsCls w v l) (hb : Below w.heap.size w w') : IsCls w' v l := Rd.below h hb
theorem IsCls.open {w : World} {v : Value} {l : List Clo} (h : IsCls w v l) :
    ∃ a cap, v = .slice a l.length cap ∧ l.length ≤ maxLen ∧ l.length ≤ cap ∧ ∀ i (hi : i < l.length), ∃ b off, a = some ⟨b, off, none⟩ ∧ b < w.heap.size ∧
      w.cell? ⟨b, off + i * 3, none⟩ = some (.int .i64 l[i].f) ∧ w.cell? ⟨b, off + i * 3 + 1, none⟩ = some (.int .i64 l[i].u) ∧ w.cell? ⟨b, off + i * 3 + 2, none⟩ = some (.int .i64 l[i].k) := by
  obtain ⟨h1, h2, a, cap, rfl, hn, hc⟩ := h
  refine ⟨a, cap, rfl, h2, hn, fun i hi => ?_⟩
  obtain ⟨b, off, rfl, c0⟩ := hc (i * 3 + 0) (.int .i64 l[i].f) (by rw [enC_get clE_len l i 0 hi (by omega)]; rfl)
  obtain ⟨_, _, e1, c1⟩ := hc (i * 3 + 1) (.int .i64 l[i].u) (by rw [enC_get clE_len l i 1 hi (by omega)]; rfl)
  obtain ⟨_, _, e2, c2⟩ := hc (i * 3 + 2) (.int .i64 l[i].k) (by rw [enC_get clE_len l i 2 hi (by omega)]; rfl)
  cases e1
  cases e2
  exact ⟨b, off, rfl, World.block_lt_of_cell? _ _ c0, c0, c1, c2⟩
def cloB (K d : Int) (c : Clo) : Bool := decide (c.k ≤ K ∧ c.f ≤ d ∧ d ≤ c.u)
/-- Is a day shut? -/
def shutF (wk : Nat → Bool) (hs : List Hol) (cl : List Clo) (K d : Int) : Bool := if wk (d % 7).toNat = true then true else if cl.any (cloB K d) = true then true else isF hs d
/-- A calendar's box (block C) and the box of a day (block B). -/
structure CalAt (w : World) (C : Nat) (wk : Nat → Bool) (hs : List Hol) (cl : List Clo) (hv cv : Value) : Prop where
  wks : ∀ j, j < 7 → w.cell? ⟨C, j, none⟩ = some (.bool (wk j))
  hol : w.cell? ⟨C, 7, none⟩ = some hv
  clo : w.cell? ⟨C, 8, none⟩ = some cv
  hos : IsHos w hv hs
  cls : IsCls w cv cl
theorem CalAt.below {w w' : World} {C : Nat} {wk : Nat → Bool} {hs : List Hol} {cl : List Clo} {hv cv : Value} (h : CalAt w C wk hs cl hv cv) (hb : Below w.heap.size w w') : CalAt w' C wk hs cl hv cv := by
  have hlt := World.block_lt_of_cell? _ _ h.hol
  exact ⟨fun j hj => (hb.cell (p := ⟨C, j, none⟩) hlt).trans (h.wks j hj), (hb.cell (p := ⟨C, 7, none⟩) hlt).trans h.hol, (hb.cell (p := ⟨C, 8, none⟩) hlt).trans h.clo, h.hos.below hb, h.cls.below hb⟩

set_option maxHeartbeats 2000000 in
set_option maxRecDepth 100000 in
theorem shut1_any (C B : Nat) (wk : Nat → Bool) (hs : List Hol) (cl : List Clo) (hv cv : Value) (K d : Int) (w : World) (hC : CalAt w C wk hs cl hv cv) (hK : w.cell? ⟨B, 0, none⟩ = some (.int .i64 K))
    (hi : ∀ h ∈ hs, HolIn h) (hl : hs.length ≤ 10) (hcl : cl.length ≤ 10) (hT : Tabs w) (hd : 739500 ≤ d ∧ d ≤ 740000) :
    Calls Tryd.prog 25 #[.int .i64 d, .pointer (some ⟨C, 0, none⟩), .pointer (some ⟨B, 0, none⟩)] w fun e w' => e = .returned (.bool (shutF wk hs cl K d)) ∧ Below w.heap.size w w' := by
  have HIS := Lib.hid (fun w7 (hb : Below w.heap.size w w7) => is_any hs hv d w7 (hC.hos.below hb) hi hl (hT.below hb) hd)
  have hB := World.block_lt_of_cell? _ _ hK
  have HKB : Hid (∀ w7, Below w.heap.size w w7 → w7.cell? ⟨B, 0, none⟩ = some (.int .i64 K)) := fun w7 hb => (hb.cell hB).trans hK
  have hCl := World.block_lt_of_cell? _ _ hC.hol
  have HC7 : Hid (∀ w7, Below w.heap.size w w7 → w7.cell? ⟨C, 7, none⟩ = some hv) := fun w7 hb => (hb.cell (p := ⟨C, 7, none⟩) hCl).trans hC.hol
  have HCL := Lib.hid hC.cls
  obtain ⟨wd, hwd⟩ := Int.eq_ofNat_of_zero_le (by omega : 0 ≤ d % 7)
  have hwd7 : wd < 7 := by omega
  have HWK2 : Hid (∀ w7, Calls Tryd.prog 26 #[.int .i64 d] w7 fun e w' => e = .returned (.int .i64 (wd : Int)) ∧ w' = w7) := fun w7 => by
    have h := weekday_any d w7 (by omega)
    rwa [hwd] at h
  have hwdI : (wd : Int) < 7 := by omega
  have cw := hC.wks wd hwd7
  have c8 := hC.clo
  have hsh : shutF wk hs cl K d = if wk wd = true then true else if cl.any (cloB K d) = true then true else isF hs d := by unfold shutF; rw [hwd]; rfl
  rw [hsh]
  obtain ⟨wb, hwb⟩ : ∃ b, wk wd = b := ⟨_, rfl⟩
  rw [hwb] at cw ⊢
  obtain ⟨av, cap, rfl, -, -, -⟩ := hC.cls.open
  clear hC hK hi hT hB hCl hwd hsh hwb
  cases wb
  · rw [if_neg (by decide)]
    obtain ⟨R, hR⟩ : ∃ R, (if cl.any (cloB K d) = true then true else isF hs d) = R := ⟨_, rfl⟩
    rw [hR]
    have HR := Lib.hid hR
    clear hR
    go_enter Tryd.func25, Tryd.ntmps25
    go_wp2_with (go_at_call 26; refine (HWK2.out _).mono ?_; rintro e w9 ⟨rfl, h9⟩; obtain rfl := h9.symm)
    go_loopw [15] (fun i wr => ∃ k : Nat, i = .int .i64 k ∧ k ≤ cl.length ∧ Hid ((cl.take k).any (cloB K d) = false) ∧ w.heap.size ≤ wr.heap.size ∧ Hid (Below w.heap.size w wr)) (fun i _ => cl.length - (intOf i).toNat)
    case atStart => exact ⟨0, rfl, Nat.zero_le _, Lib.hid rfl, Nat.le_refl _, Lib.hid (Below.refl _ _)⟩
    case round =>
      obtain ⟨k, rfl, hkl, HN, hsz, HB⟩ := hrel
      by_cases hlt : (k : Int) < (cl.length : Int)
      · have hkn : k < cl.length := by omega
        obtain ⟨_, c9, e9, -, -, hc⟩ := (HCL.out.below HB.out).open
        obtain ⟨b5, o5, rfl, hlt5, c0, c1, c2⟩ := hc k hkn
        simp only [Value.slice.injEq, true_and] at e9
        obtain ⟨rfl, rfl⟩ := e9
        have HTK : Hid (cl.take (k + 1) = cl.take k ++ [cl[k]]) := List.take_succ_eq_append_getElem hkn
        have HME : Hid (cl[k] ∈ cl) := List.getElem_mem hkn
        obtain ⟨x, hx⟩ : ∃ x, cl[k] = x := ⟨_, rfl⟩
        rw [hx] at c0 c1 c2 HTK HME
        clear hx hc
        obtain ⟨xf, xu, xk⟩ := x
        simp only at c0 c1 c2
        have hbl : Below wr.heap.size wr (wr.alloc (.cells #[.int .i64 xf, .int .i64 xu, .int .i64 xk] 34)) := (Below.refl _ _).alloc (Nat.le_refl _) _
        have HB6 := Lib.hid (Below.to HB.out hbl HB.out.size)
        have cK := HKB.out _ HB6.out
        have HNX : Hid (cloB K d ⟨xf, xu, xk⟩ = false → (cl.take (k + 1)).any (cloB K d) = false) := fun h => by
          rw [HTK.out, List.any_append, HN.out, List.any_cons, h]; rfl
        have HYX : Hid (cloB K d ⟨xf, xu, xk⟩ = true → cl.any (cloB K d) = true) := fun h => List.any_eq_true.2 ⟨_, HME.out, h⟩
        clear hbl HTK HME HN HB
        by_cases h1 : xk ≤ K
        · by_cases h2 : xf ≤ d
          · by_cases h3 : d ≤ xu
            · have HY : Hid (cl.any (cloB K d) = true) := HYX.out (by unfold cloB; simp [h1, h2, h3])
              clear HNX HYX
              go_wp2_with fail
              go_ret
              exact ⟨ret_b (by rw [← HR.out, HY.out]; rfl), HB6.out⟩
            · have HN2 : Hid ((cl.take (k + 1)).any (cloB K d) = false) := HNX.out (by unfold cloB; simp [h1, h2, h3])
              clear HNX HYX
              go_wp2_with fail
              go_roundw
              case rel => exact ⟨k + 1, by go_num, by omega, HN2, HB6.out.size, HB6⟩
              case measure => simp [intOf]; omega
          · have HN2 : Hid ((cl.take (k + 1)).any (cloB K d) = false) := HNX.out (by unfold cloB; simp [h1, h2])
            clear HNX HYX
            go_wp2_with fail
            go_roundw
            case rel => exact ⟨k + 1, by go_num, by omega, HN2, HB6.out.size, HB6⟩
            case measure => simp [intOf]; omega
        · have HN2 : Hid ((cl.take (k + 1)).any (cloB K d) = false) := HNX.out (by unfold cloB; simp [h1])
          clear HNX HYX
          go_wp2_with fail
          go_roundw
          case rel => exact ⟨k + 1, by go_num, by omega, HN2, HB6.out.size, HB6⟩
          case measure => simp [intOf]; omega
      · have hke : k = cl.length := by omega
        have HN2 : Hid (cl.any (cloB K d) = false) := by
          have h := HN.out
          rwa [hke, List.take_length] at h
        have c7 := HC7.out wr HB.out
        have HI2 := Lib.hid (HIS.out wr HB.out)
        clear HIS HN
        go_wp2_with fail
        refine HI2.out.mono ?_
        rintro e w3 ⟨rfl, hb3⟩
        have HB3 := Lib.hid (Below.to HB.out hb3 HB.out.size)
        clear hb3
        go_wp2_with fail
        go_ret
        exact ⟨ret_b (by rw [← HR.out, HN2.out]; rfl), HB3.out⟩
  · go_enter Tryd.func25, Tryd.ntmps25
    go_wp2_with (go_at_call 26; refine (HWK2.out _).mono ?_; rintro e w9 ⟨rfl, h9⟩; obtain rfl := h9.symm)
    go_ret
    exact ⟨rfl, Below.refl _ _⟩

end Go.Proofs.YtkcmkpljpmfiaaaDoor
