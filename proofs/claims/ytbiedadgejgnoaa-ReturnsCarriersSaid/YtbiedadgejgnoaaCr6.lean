/-
  sorted at deliveries, where none is behind the last day.
-/
import Derived.Test.YtbiedadgejgnoaaCr4
namespace Go.Proofs.Ytbiedadgejgnoaa
open Go.RowKit

def layDel_ren : Go.Shelf.Ren := ⟨fun | 20 => 104 | n => n, fun | 22 => 57 | 24 => 82 | 25 => 104 | 0 => 0 | 3 => 3 | 4 => 4 | n => n, fun | n => n⟩
theorem layDel : Go.Proofs.SlLaysF0.n20 Try.prog layDel_ren := {
  mixed := by kernel_rfl,
  f20 := ⟨Try.f104.name, by decide, Try.func104.trans (congrArg some (by kernel_rfl))⟩,
  t0 := Try.underlying0,
  a0 := Try.isAgg0,
  z0 := Try.sizeOf0,
  v0 := Try.zeroValue0,
  t3 := Try.underlying3,
  a3 := Try.isAgg3,
  z3 := Try.sizeOf3,
  v3 := Try.zeroValue3,
  t4 := Try.underlying4,
  a4 := Try.isAgg4,
  z4 := Try.sizeOf4,
  v4 := Try.zeroValue4,
  t22 := Try.underlying57,
  a22 := Try.isAgg57,
  z22 := Try.sizeOf57,
  v22 := Try.zeroValue57,
  t25 := Try.underlying104,
  a25 := Try.isAgg104,
  z25 := Try.sizeOf104,
  v25 := Try.zeroValue104 }

theorem grown_more {w w' : World} {r : Option Nat} (h : w.grownBy w' none) : w.grownBy w' r := ⟨h.os, h.tape, h.output, h.size, fun k hk _ => h.block k hk (by simp)⟩
theorem grown_behind {w w1 w2 : World} {r : Option Nat} (h : Below w.heap.size w w1) (h2 : w1.grownBy w2 r) : w.grownBy w2 r :=
  ⟨h2.os.trans h.os, h2.tape.trans h.tape, h2.output.trans h.output, Nat.le_trans h.size h2.size, fun k hk hr => (h2.block k (Nat.lt_of_lt_of_le hk h.size) hr).trans (h.block k hk)⟩

theorem ltDel (x y : Dl) : ltOf (fun x y : Dl => orC (cmC x.day y.day) (cmC x.att y.att)) x y = decide (x.day < y.day ∨ (x.day = y.day ∧ x.att < y.att)) := by
  unfold ltOf
  rw [decide_eq_decide]
  exact orC_neg _ _ _ _
theorem swoDel : Sort.SWO (ltOf fun x y : Dl => orC (cmC x.day y.day) (cmC x.att y.att)) where
  irrefl x := by rw [ltDel]; simp
  trans x y z h1 h2 := by rw [ltDel] at *; simp at *; omega
  ntrans x y z h1 h2 := by rw [ltDel] at *; simp at *; omega

theorem ins0Del (a : Option Addr) (cap K : Nat) (caps : Array Value) (w : World) :
    Calls Try.prog 104 #[.slice a 0 cap, .int .i64 0, .int .i64 0, .func (.func K) #[] caps] w fun e w' => e = .returned (.tuple #[]) ∧ w = w' := by
  go_enter Try.func104, Try.ntmps104
  go_wp2_with fail
  refine wp_loop_rounds 1 ?_
  rw [rounds_succ]
  go_wp2_with fail
  go_end0
  exact ⟨rfl, rfl⟩

theorem insDel (F B E : Nat) (v : Value) (l : List Dl) (w : World) (hown : w.ownsRow B E 3 v l.length (enC dlE l)) (hl : l.length ≤ 19) (hF : w.cell? ⟨F, 0, none⟩ = some (.func (.func 48) #[] #[])) (hFv : v.ownBlock ≠ some F) :
    Calls Try.prog 104 #[v, .int .i64 0, .int .i64 l.length, .func (.func 71) #[] #[.pointer (some ⟨F, 0, none⟩)]] w fun e w' => e = .returned (.tuple #[]) ∧ ∃ l', l'.Perm l ∧ w'.ownsRow B E 3 v l'.length (enC dlE l') ∧ w.grownBy w' v.ownBlock := by
  rcases Nat.eq_zero_or_pos l.length with h0 | hpos
  · have hl0 : l = [] := List.eq_nil_of_length_eq_zero h0
    subst hl0
    obtain ⟨a, cap, rfl, -, -⟩ := owns_slice hown
    refine (ins0Del a cap _ _ w).mono ?_
    rintro e w' ⟨rfl, rfl⟩
    exact ⟨rfl, [], List.Perm.refl _, hown, grown_more (grown_of_below (Below.refl _ _))⟩
  · obtain ⟨g, cap, rfl, hBg, hgl, -⟩ := owns_some hown hpos
    have hFg : F ≠ g := fun e => hFv (by rw [e]; rfl)
    have hlF := World.block_lt_of_cell? _ _ hF
    have h := insSort_any (ρ := layDel_ren) layDel dlE_len (by decide) dlE_one Try.isAgg82 Try.sizeOf82 (fun x y : Dl => orC (cmC x.day y.day) (cmC x.att y.att)) swoDel 71 #[.pointer (some ⟨F, 0, none⟩)]
      (enters_of Try.func71 (by kernel_rfl) rfl) B E g cap l w hown (by omega) (fun m os dk hd x y => cmpDel x y F _ ((sortWorldK_cell w g m dk os (p := ⟨F, 0, none⟩) hFg hlF).trans hF))
    change Calls Try.prog 104 _ _ _ at h
    refine Calls.mono h ?_
    rintro e w' ⟨rfl, l', hp, ho, hg⟩
    have hle : l'.length = l.length := hp.length_eq
    refine ⟨rfl, l', hp, ?_, hg⟩
    rw [hle]
    exact ho

set_option maxRecDepth 100000 in
theorem stableDel (F B E : Nat) (v : Value) (l : List Dl) (w : World) (hown : w.ownsRow B E 3 v l.length (enC dlE l)) (hl : l.length ≤ 19) (hF : w.cell? ⟨F, 0, none⟩ = some (.func (.func 48) #[] #[])) (hFv : v.ownBlock ≠ some F) :
    Calls Try.prog 82 #[v, .int .i64 l.length, .func (.func 71) #[] #[.pointer (some ⟨F, 0, none⟩)]] w fun e w' => e = .returned (.tuple #[]) ∧ ∃ l', l'.Perm l ∧ w'.ownsRow B E 3 v l'.length (enC dlE l') ∧ w.grownBy w' v.ownBlock := by
  have HI := Lib.hid (insDel F B E v l w hown hl hF hFv)
  obtain ⟨a, cap, rfl, -, -⟩ := owns_slice hown
  have hlI : ¬ (20 : Int) ≤ (l.length : Int) := by omega
  have hlJ : ¬ (20 : Int) < (l.length : Int) := by omega
  clear hown hF hFv
  go_enter Try.func82, Try.ntmps82
  go_wp2_with fail
  refine wp_loop_rounds 1 ?_
  rw [rounds_succ]
  go_wp2_with fail
  refine HI.out.mono ?_
  rintro e w1 ⟨rfl, l', hp, ho, hb⟩
  have HR : Hid (∃ l', l'.Perm l ∧ w1.ownsRow B E 3 (.slice a l.length cap) l'.length (enC dlE l') ∧ w.grownBy w1 (Value.slice a l.length cap).ownBlock) := ⟨l', hp, ho, hb⟩
  clear hp ho hb HI
  go_wp2_with fail
  refine wp_loop_rounds 1 ?_
  rw [rounds_succ]
  go_wp2_with fail
  go_end0
  exact ⟨rfl, HR.out⟩

set_option maxRecDepth 100000 in
theorem sortDel (F B E : Nat) (v : Value) (l : List Dl) (w : World) (hown : w.ownsRow B E 3 v l.length (enC dlE l)) (hl : l.length ≤ 19) (hF : w.cell? ⟨F, 0, none⟩ = some (.func (.func 48) #[] #[])) (hFv : v.ownBlock ≠ some F) :
    Calls Try.prog 70 #[v, .func (.func 71) #[] #[.pointer (some ⟨F, 0, none⟩)]] w fun e w' => e = .returned (.tuple #[]) ∧ ∃ l', l'.Perm l ∧ w'.ownsRow B E 3 v l'.length (enC dlE l') ∧ w.grownBy w' v.ownBlock := by
  have HI := Lib.hid (stableDel F B E v l w hown hl hF hFv)
  obtain ⟨a, cap, rfl, -, -⟩ := owns_slice hown
  clear hown hF hFv
  go_enter Try.func70, Try.ntmps70
  go_wp2_with fail
  refine HI.out.mono ?_
  rintro e w1 ⟨rfl, l', hp, ho, hb⟩
  have HR : Hid (∃ l', l'.Perm l ∧ w1.ownsRow B E 3 (.slice a l.length cap) l'.length (enC dlE l') ∧ w.grownBy w1 (Value.slice a l.length cap).ownBlock) := ⟨l', hp, ho, hb⟩
  clear hp ho hb HI
  go_wp2_with fail
  go_end0
  exact ⟨rfl, HR.out⟩

theorem idxF_all {α : Type} {p : α → Bool} {l : List α} (h : ∀ x ∈ l, p x = false) : idxF p l = -1 := idxF_none (fun _ hj => h _ (List.getElem_mem hj))

set_option maxRecDepth 100000 in
theorem dropDel (l : List Dl) (p : Dl → Bool) (K : Nat) (caps : Array Value) (v : Value) (w : World) (hx : IsDls w v l) (hK : CanCall K)
    (hf : ∀ (i : Nat) (h : i < l.length) (W : World), Below w.heap.size w W → Calls Try.prog K (#[.agg (litDl l[i])] ++ caps) W fun e w' => e = .returned (.bool (p l[i])) ∧ Below W.heap.size W w') (hn : ∀ x ∈ l, p x = false) :
    Calls Try.prog 68 #[v, .func (.func K) #[] caps] w fun e w' => e = .returned v ∧ Below w.heap.size w w' := by
  have HI := Lib.hid (idxDelivery l p K caps v w hx hK hf)
  rw [idxF_all hn] at HI
  obtain ⟨a, cap, rfl, -, -⟩ := hx.open
  clear hx hK hf hn
  go_enter Try.func68, Try.ntmps68
  go_wp2_with fail
  refine HI.out.mono ?_
  rintro e w1 ⟨rfl, hb⟩
  have HB := Lib.hid hb
  clear hb HI
  go_wp2_with fail
  go_ret
  exact ⟨rfl, HB.out⟩

set_option maxRecDepth 100000 in
theorem canDelDel : CanCall 69 := fun _ _ => rfl

set_option maxHeartbeats 1000000 in
set_option maxRecDepth 100000 in
theorem sortedDel (B E : Nat) (v : Value) (l : List Dl) (u : Int) (w : World) (hown : w.ownsRow B E 3 v l.length (enC dlE l)) (hl : l.length ≤ 19) (hu : ∀ x ∈ l, x.day ≤ u) :
    Calls Try.prog 47 #[v, .int .i64 u, .func (.func 48) #[] #[]] w fun e w' => ∃ v', e = .returned v' ∧ ∃ l', l'.Perm l ∧ w'.ownsRow B E 3 v' l'.length (enC dlE l') ∧ w.grownBy w' v.ownBlock := by
  obtain ⟨W0, hW0⟩ : ∃ W0, W0 = (w.alloc (.cells #[.int .i64 u] 3)).alloc (.cells #[.func (.func 48) #[] #[]] 84) := ⟨_, rfl⟩
  obtain ⟨U, hU⟩ : ∃ U, U = w.heap.size := ⟨_, rfl⟩
  have hb0 : Below w.heap.size w W0 := by rw [hW0]; exact ((Below.refl _ _).alloc (Nat.le_refl _) _).alloc (by simp) _
  have cU : W0.cell? ⟨U, 0, none⟩ = some (.int .i64 u) := by
    rw [hW0, hU]
    exact (((Below.refl (w.alloc (.cells #[.int .i64 u] 3)).heap.size _).alloc (Nat.le_refl _) _).cell (p := ⟨w.heap.size, 0, none⟩) (by simp)).trans ((cells_alloc w #[.int .i64 u] 3 0).trans rfl)
  have cF : W0.cell? ⟨U + 1, 0, none⟩ = some (.func (.func 48) #[] #[]) := by
    have h := cells_alloc (w.alloc (.cells #[.int .i64 u] 3)) #[.func (.func 48) #[] #[]] 84 0
    rw [World.size_alloc] at h
    rw [hW0, hU]
    exact h.trans rfl
  have hFlt : U + 1 < W0.heap.size := by rw [hW0, hU]; simp
  have ho0 := owns_below hown hb0
  have hne : v.ownBlock ≠ some (U + 1) := fun e => by have := (hown.lt _ e).2; omega
  have HD := Lib.hid (dropDel l (fun x => decide (u < x.day)) 69 #[.pointer (some ⟨U + 1, 0, none⟩), .pointer (some ⟨U, 0, none⟩)] v W0 (IsDls.of_owns ho0) canDelDel
    (fun i hi W hW => delDel l[i] u (U + 1) U W ((hW.cell (p := ⟨U + 1, 0, none⟩) hFlt).trans cF) ((hW.cell (p := ⟨U, 0, none⟩) (by show U < _; omega)).trans cU)) (fun x hx => by have := hu x hx; simp; omega))
  have HS : Hid (∀ W, Below W0.heap.size W0 W → Calls Try.prog 70 #[v, .func (.func 71) #[] #[.pointer (some ⟨U + 1, 0, none⟩)]] W fun e w' => e = .returned (.tuple #[]) ∧ ∃ l', l'.Perm l ∧ w'.ownsRow B E 3 v l'.length (enC dlE l') ∧ W.grownBy w' v.ownBlock) := fun W hW =>
    sortDel (U + 1) B E v l W (owns_below ho0 hW) hl ((hW.cell (p := ⟨U + 1, 0, none⟩) hFlt).trans cF) hne
  have HB0 : Hid (∀ W, Below W0.heap.size W0 W → Below w.heap.size w W) := fun W hW => Below.to hb0 hW hb0.size
  have HW0 := Lib.hid hW0
  have HU := Lib.hid hU
  obtain ⟨a, cap, rfl, -, -⟩ := owns_slice hown
  clear hown hu hW0 hU hb0 cU cF hFlt ho0 hne
  go_enter Try.func47, Try.ntmps47
  go_wp2_with fail
  rw [← HW0.out, ← HU.out]
  refine HD.out.mono ?_
  rintro e w1 ⟨rfl, hb⟩
  have HS1 := Lib.hid (HS.out w1 hb)
  have HB1 := Lib.hid (HB0.out w1 hb)
  clear hb HD HS HB0
  go_wp2_with fail
  refine HS1.out.mono ?_
  rintro e w2 ⟨rfl, l', hp, ho, hb⟩
  have HR : Hid (∃ l', l'.Perm l ∧ w2.ownsRow B E 3 (.slice a l.length cap) l'.length (enC dlE l') ∧ w.grownBy w2 (Value.slice a l.length cap).ownBlock) := ⟨l', hp, ho, grown_behind HB1.out hb⟩
  clear hp ho hb HS1
  go_wp2_with fail
  go_ret
  exact ⟨_, rfl, HR.out⟩

end Go.Proofs.Ytbiedadgejgnoaa
