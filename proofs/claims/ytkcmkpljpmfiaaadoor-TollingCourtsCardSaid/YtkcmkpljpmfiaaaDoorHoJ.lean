/-
  Package holiday: rows of rules in memory; kinds, within.
-/
import Derived.Test.YtkcmkpljpmfiaaaDoorHoG
import Derived.Test.YtkcmkpljpmfiaaaDoorHoI
import Derived.Laws.EntriesVeiled
namespace Go.Proofs.YtkcmkpljpmfiaaaDoor
open Go.RowKit

def IsHos (w : World) (v : Value) (l : List Hol) : Prop := Rd w v 9 l.length (enC hoE l)
theorem IsHos.below {w w' : World} {v : Value} {l : List Hol} (h : IsHos w v l) (hb : Below w.heap.size w w') : IsHos w' v l := Rd.below h hb
theorem IsHos.open {w : World} {v : Value} {l : List Hol} (h : IsHos w v l) :
    ∃ a cap, v = .slice a l.length cap ∧ l.length ≤ maxLen ∧ l.length ≤ cap ∧ ∀ i (hi : i < l.length), ∃ b off, a = some ⟨b, off, none⟩ ∧ b < w.heap.size ∧ w.rangeAt b (off + i * 9) (hoE l[i]) := by
  obtain ⟨h1, h2, a, cap, rfl, hn, hc⟩ := h
  refine ⟨a, cap, rfl, h2, hn, fun i hi => ?_⟩
  obtain ⟨b, off, rfl, c0⟩ := hc (i * 9 + 0) (.int .i64 l[i].kind) (by rw [enC_get hoE_len l i 0 hi (by omega)]; rfl)
  refine ⟨b, off, rfl, World.block_lt_of_cell? _ _ c0, fun j v hv => ?_⟩
  have hj : j < 9 := by have := (List.getElem?_eq_some_iff.1 hv).1; rwa [hoE_len] at this
  obtain ⟨_, _, e, c1⟩ := hc (i * 9 + j) v (by rw [enC_get hoE_len l i j hi hj]; exact hv)
  cases e
  rw [Nat.add_assoc]
  exact c1
theorem infoHol : (Tryd.prog.info? 48).map (·.size) = some 9 := by kernel_rfl
theorem alloc_new (w : World) (o : Obj) : (w.alloc o).heap[w.heap.size]? = some o := by
  show (w.heap.push o)[w.heap.size]? = some o
  simp
theorem range_below' {w w' : World} {B b o : Nat} {cs : List Value} (h : w.rangeAt b o cs) (hb : Below B w w') (hlt : b < B) : w'.rangeAt b o cs := fun j v hv => by
  rw [hb.cell hlt]
  exact h j v hv

theorem within_any (n lo hi : Int) (w : World) : Calls Tryd.prog 32 #[.int .i64 n, .int .i64 lo, .int .i64 hi] w fun e w' => e = .returned (.bool (decide (lo ≤ n ∧ n ≤ hi))) ∧ w' = w := by
  obtain ⟨R, hR⟩ : ∃ R, decide (lo ≤ n ∧ n ≤ hi) = R := ⟨_, rfl⟩
  rw [hR]
  by_cases h1 : lo ≤ n
  · by_cases h2 : n ≤ hi
    · have hd : Hid (true = R) := by show _ = _; rw [← hR]; simp [h1, h2]
      clear hR
      go_enter Tryd.func32, Tryd.ntmps32
      go_wp2_with fail
      go_ret
      exact ⟨ret_b hd.out, rfl⟩
    · have hd : Hid (false = R) := by show _ = _; rw [← hR]; simp; omega
      clear hR
      go_enter Tryd.func32, Tryd.ntmps32
      go_wp2_with fail
      go_ret
      exact ⟨ret_b hd.out, rfl⟩
  · have hd : Hid (false = R) := by show _ = _; rw [← hR]; simp; omega
    clear hR
    go_enter Tryd.func32, Tryd.ntmps32
    go_wp2_with fail
    go_ret
    exact ⟨ret_b hd.out, rfl⟩

/-- The functions of the four kinds, with their names' functions before them. -/
def kindRow : Array Value := #[.func (.func 58) #[] #[], .func (.func 59) #[] #[], .func (.func 61) #[] #[], .func (.func 62) #[] #[], .func (.func 65) #[] #[], .func (.func 66) #[] #[], .func (.func 67) #[] #[], .func (.func 68) #[] #[]]
set_option maxHeartbeats 1000000 in
theorem kinds_any (w : World) : Calls Tryd.prog 53 #[] w fun e w' => e = .returned (.agg kindRow) ∧ Below w.heap.size w w' := by
  go_enter Tryd.func53, Tryd.ntmps53
  go_wp2_with fail
  refine bodyPost_ret (results_cell_row rfl _ _ w.heap.size 102 kindRow _ _ rfl (alloc_new _ _) Tryd.underlying102 rfl (by kernel_rfl)) rfl ?_
  exact ⟨rfl, (Below.refl _ _).alloc (Nat.le_refl _) _⟩

theorem ofF_take : ∀ (hs : List Hol) (y : Int) (i k : Nat) (hk : k < hs.length), ofF (hs.take (k + 1)) y i = ofF (hs.take k) y i ++ (if (nomH hs[k] y).2 = true then [(dayH hs[k] y, ((i + k : Nat) : Int))] else [])
  | h :: r, y, i, 0, _ => by simp [ofF]
  | h :: r, y, i, k + 1, hk => by
    have hk' : k < r.length := by simpa using hk
    have ih := ofF_take r y (i + 1) k hk'
    rw [List.take_succ_cons, ofF, ih, List.take_succ_cons, ofF, List.append_assoc, List.getElem_cons_succ, show i + 1 + k = i + (k + 1) by omega]
/-- The function of a kind. -/
def kindFn (k : Int) : Nat := if k = 1 then 59 else if k = 2 then 62 else if k = 3 then 66 else 68
theorem nomH_any (h : Hol) (hi : HolIn h) (y : Int) (w : World) (hT : Tabs w) (hy : 2024 ≤ y ∧ y ≤ 2030) :
    Calls Tryd.prog (kindFn h.kind) #[.agg (hoE h).toArray, .int .i64 y] w fun e w' => e = .returned (.tuple #[.int .i64 (nomH h y).1, .bool (nomH h y).2]) ∧ Below w.heap.size w w' := by
  have k1 := hi.k1
  have k4 := hi.k4
  have hw : 0 ≤ h.wk ∧ h.wk ≤ 6 := ⟨hi.w0, hi.w6⟩
  by_cases h1 : h.kind = 1
  · have e1 : kindFn h.kind = 59 := if_pos h1
    have e2 : nomH h y = nom1 y h.mon h.dom := if_pos h1
    rw [e1, e2]
    exact kind1_any h.kind h.mon h.dom h.wk h.nth h.off h.mov y w hT hy ⟨hi.m1 (by omega), hi.m4 (by omega)⟩ ⟨hi.d1 h1, hi.d31 h1⟩
  · by_cases h2 : h.kind = 2
    · have e1 : kindFn h.kind = 62 := by unfold kindFn; rw [if_neg h1, if_pos h2]
      have e2 : nomH h y = nom2 y h.mon h.wk h.nth := by unfold nomH; rw [if_neg h1, if_pos h2]
      rw [e1, e2]
      exact kind2_any h.kind h.mon h.dom h.wk h.nth h.off h.mov y w hT hy ⟨hi.m1 (by omega), hi.m4 (by omega)⟩ hw ⟨hi.n1 h2, hi.n5 h2⟩
    · by_cases h3 : h.kind = 3
      · have e1 : kindFn h.kind = 66 := by unfold kindFn; rw [if_neg h1, if_neg h2, if_pos h3]
        have e2 : nomH h y = nom3 y h.mon h.wk := by unfold nomH; rw [if_neg h1, if_neg h2, if_pos h3]
        rw [e1, e2]
        exact kind3_any h.kind h.mon h.dom h.wk h.nth h.off h.mov y w hT hy ⟨hi.m1 (by omega), hi.m4 (by omega)⟩ hw
      · have e1 : kindFn h.kind = 68 := by unfold kindFn; rw [if_neg h1, if_neg h2, if_neg h3]
        have e2 : nomH h y = nom4 y h.off := by unfold nomH; rw [if_neg h1, if_neg h2, if_neg h3]
        rw [e1, e2]
        exact kind4_any h.kind h.mon h.dom h.wk h.nth h.off h.mov y w hT hy ⟨hi.o0, hi.o1⟩

end Go.Proofs.YtkcmkpljpmfiaaaDoor
