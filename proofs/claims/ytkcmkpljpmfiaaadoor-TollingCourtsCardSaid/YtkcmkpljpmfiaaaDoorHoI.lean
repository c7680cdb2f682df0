/-
  SortStableFunc at the days of a year (at most nineteen): the row after it holds the same days.
-/
import Derived.Test.YtkcmkpljpmfiaaaDoorEnR
import Derived.Test.YtkcmkpljpmfiaaaDoorSrt
namespace Go.Proofs.YtkcmkpljpmfiaaaDoor
open Go.RowKit

def layNam_ren : Go.Shelf.Ren := ⟨fun | 20 => 83 | n => n, fun | 22 => 86 | 24 => 89 | 25 => 107 | 0 => 0 | 3 => 3 | 4 => 4 | n => n, fun | n => n⟩
theorem layNam : Go.Proofs.SlLaysF0.n20 Tryd.prog layNam_ren := {
  mixed := by kernel_rfl,
  f20 := ⟨Tryd.f83.name, by decide, Tryd.func83.trans (congrArg some (by kernel_rfl))⟩,
  t0 := Tryd.underlying0,
  a0 := Tryd.isAgg0,
  z0 := Tryd.sizeOf0,
  v0 := Tryd.zeroValue0,
  t3 := Tryd.underlying3,
  a3 := Tryd.isAgg3,
  z3 := Tryd.sizeOf3,
  v3 := Tryd.zeroValue3,
  t4 := Tryd.underlying4,
  a4 := Tryd.isAgg4,
  z4 := Tryd.sizeOf4,
  v4 := Tryd.zeroValue4,
  t22 := Tryd.underlying86,
  a22 := Tryd.isAgg86,
  z22 := Tryd.sizeOf86,
  v22 := Tryd.zeroValue86,
  t25 := Tryd.underlying107,
  a25 := Tryd.isAgg107,
  z25 := Tryd.sizeOf107,
  v25 := Tryd.zeroValue107 }


theorem grown_more {w w' : World} {r : Option Nat} (h : w.grownBy w' none) : w.grownBy w' r := ⟨h.os, h.tape, h.output, h.size, fun k hk _ => h.block k hk (by simp)⟩
theorem grown_behind {w w1 w2 : World} {r : Option Nat} (h : Below w.heap.size w w1) (h2 : w1.grownBy w2 r) : w.grownBy w2 r :=
  ⟨h2.os.trans h.os, h2.tape.trans h.tape, h2.output.trans h.output, Nat.le_trans h.size h2.size, fun k hk hr => (h2.block k (Nat.lt_of_lt_of_le hk h.size) hr).trans (h.block k hk)⟩
theorem spRow_one (x : Int × Int) : ∀ v ∈ spRow x, v.oneCell' = true := by
  intro v hv
  simp [spRow] at hv
  rcases hv with rfl | rfl <;> rfl
theorem cmpNam (x y : Int × Int) (W : World) : Calls Tryd.prog 55 #[.agg #[.int .i64 x.1, .int .i64 x.2], .agg #[.int .i64 y.1, .int .i64 y.2]] W fun e w' => e = .returned (.int .i64 (cmpF x.1 y.1)) ∧ ∃ q os', w' = Sort.grow (W.drewN q) os' := by
  have hcon := fun W' => compare_any x.1 y.1 W'
  generalize cmpF x.1 y.1 = r at hcon ⊢
  go_enter Tryd.func55, Tryd.ntmps55
  go_wp2_with (go_at_call 23; refine (hcon _).mono ?_; rintro e w' ⟨rfl, rfl⟩)
  go_ret
  exact ⟨rfl, 0, _, by rw [Sort.alloc_eq_grow, Sort.alloc_eq_grow, Sort.grow_grow]; rfl⟩

theorem ins0Nam (a : Option Addr) (cap K : Nat) (caps : Array Value) (w : World) :
    Calls Tryd.prog 83 #[.slice a 0 cap, .int .i64 0, .int .i64 0, .func (.func K) #[] caps] w fun e w' => e = .returned (.tuple #[]) ∧ w = w' := by
  go_enter Tryd.func83, Tryd.ntmps83
  go_wp2_with fail
  refine wp_loop_rounds 1 ?_
  rw [rounds_succ]
  go_wp2_with fail
  go_end0
  exact ⟨rfl, rfl⟩

set_option maxRecDepth 100000 in
theorem insNam (B E : Nat) (v : Value) (l : List (Int × Int)) (w : World) (hown : w.ownsRow B E 2 v l.length (enC spRow l)) (hl : l.length ≤ 19) :
    Calls Tryd.prog 83 #[v, .int .i64 0, .int .i64 l.length, .func (.func 55) #[] #[]] w fun e w' => e = .returned (.tuple #[]) ∧ ∃ l', l'.Perm l ∧ w'.ownsRow B E 2 v l'.length (enC spRow l') ∧ w.grownBy w' v.ownBlock := by
  rcases Nat.eq_zero_or_pos l.length with h0 | hpos
  · have hl0 : l = [] := List.eq_nil_of_length_eq_zero h0
    subst hl0
    obtain ⟨a, cap, rfl, -, -⟩ := owns_slice hown
    refine (ins0Nam a cap _ _ w).mono ?_
    rintro e w' ⟨rfl, rfl⟩
    exact ⟨rfl, [], List.Perm.refl _, hown, grown_more (grown_of_below (Below.refl _ _))⟩
  · obtain ⟨g, cap, rfl, hBg, hgl, -⟩ := owns_some hown hpos
    have h := insSort_any (enc := spRow) (s := 2) (ρ := layNam_ren) layNam (fun _ => rfl) (by decide) spRow_one Tryd.isAgg89 Tryd.sizeOf89 (fun x y : Int × Int => cmpF x.1 y.1) swo_span 55 #[]
      (enters_of Tryd.func55 (by kernel_rfl) rfl) B E g cap l w hown (by omega) (fun m os dk hd x y => cmpNam x y _)
    change Calls Tryd.prog 83 _ _ _ at h
    refine Calls.mono h ?_
    rintro e w' ⟨rfl, l', hp, ho, hg⟩
    have hle : l'.length = l.length := hp.length_eq
    refine ⟨rfl, l', hp, ?_, hg⟩
    rw [hle]
    exact ho

set_option maxRecDepth 100000 in
theorem stableNam (B E : Nat) (v : Value) (l : List (Int × Int)) (w : World) (hown : w.ownsRow B E 2 v l.length (enC spRow l)) (hl : l.length ≤ 19) :
    Calls Tryd.prog 70 #[v, .int .i64 l.length, .func (.func 55) #[] #[]] w fun e w' => e = .returned (.tuple #[]) ∧ ∃ l', l'.Perm l ∧ w'.ownsRow B E 2 v l'.length (enC spRow l') ∧ w.grownBy w' v.ownBlock := by
  have HI := Lib.hid (insNam B E v l w hown hl)
  obtain ⟨a, cap, rfl, -, -⟩ := owns_slice hown
  have hlI : ¬ (20 : Int) ≤ (l.length : Int) := by omega
  have hlJ : ¬ (20 : Int) < (l.length : Int) := by omega
  clear hown
  go_enter Tryd.func70, Tryd.ntmps70
  go_wp2_with fail
  refine wp_loop_rounds 1 ?_
  rw [rounds_succ]
  go_wp2_with fail
  refine HI.out.mono ?_
  rintro e w1 ⟨rfl, l', hp, ho, hb⟩
  have HR : Hid (∃ l', l'.Perm l ∧ w1.ownsRow B E 2 (.slice a l.length cap) l'.length (enC spRow l') ∧ w.grownBy w1 (Value.slice a l.length cap).ownBlock) := ⟨l', hp, ho, hb⟩
  clear hp ho hb HI
  go_wp2_with fail
  refine wp_loop_rounds 1 ?_
  rw [rounds_succ]
  go_wp2_with fail
  go_end0
  exact ⟨rfl, HR.out⟩

set_option maxRecDepth 100000 in
theorem sortNam (B E : Nat) (v : Value) (l : List (Int × Int)) (w : World) (hown : w.ownsRow B E 2 v l.length (enC spRow l)) (hl : l.length ≤ 19) :
    Calls Tryd.prog 54 #[v, .func (.func 55) #[] #[]] w fun e w' => e = .returned (.tuple #[]) ∧ ∃ l', l'.Perm l ∧ w'.ownsRow B E 2 v l'.length (enC spRow l') ∧ w.grownBy w' v.ownBlock := by
  have HI := Lib.hid (stableNam B E v l w hown hl)
  obtain ⟨a, cap, rfl, -, -⟩ := owns_slice hown
  clear hown
  go_enter Tryd.func54, Tryd.ntmps54
  go_wp2_with fail
  refine HI.out.mono ?_
  rintro e w1 ⟨rfl, l', hp, ho, hb⟩
  have HR : Hid (∃ l', l'.Perm l ∧ w1.ownsRow B E 2 (.slice a l.length cap) l'.length (enC spRow l') ∧ w.grownBy w1 (Value.slice a l.length cap).ownBlock) := ⟨l', hp, ho, hb⟩
  clear hp ho hb HI
  go_wp2_with fail
  go_end0
  exact ⟨rfl, HR.out⟩

end Go.Proofs.YtkcmkpljpmfiaaaDoor
