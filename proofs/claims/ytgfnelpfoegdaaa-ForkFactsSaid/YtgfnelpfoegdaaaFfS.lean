/-
  The library's insertion sort leaves the row sorted; slices.SortFunc at up to 12 facts. (Printed by wip/tools/gen_ffs.py.)
-/
import Derived.Test.YtgfnelpfoegdaaaFfA
import Derived.Test.YtgfnelpfoegdaaaMkL
namespace Go.Proofs.Ytgfnelpfoegdaaa
open Go.RowKit

set_option maxHeartbeats 1000000 in
theorem insSorted_any {α : Type} [Inhabited α] {enc : α → List Value} {s : Nat} {ρ : Go.Shelf.Ren} (L : Go.Proofs.SlLaysF0.n20 Try.prog ρ) (hs : ∀ x, (enc x).length = s) (h0 : 0 < s) (h1 : ∀ x, ∀ v ∈ enc x, v.oneCell' = true)
    (aE : ∀ w, (isAgg (ρ.t 24)).run Try.prog w = .ok true w) (zE : ∀ w, (Go.sizeOf (ρ.t 24)).run Try.prog w = .ok s w) (cf : α → α → Int) (hO : Sort.SWO (ltOf cf)) (K : Nat) (caps : Array Value)
    (eg : ∀ args w, (callFunc K args).run Try.prog w = .ok (.enter K args) w) (B E g cap : Nat) (l : List α) (w : World)
    (hown : w.ownsRow B E s (.slice (some ⟨g, 0, none⟩) l.length cap) l.length (enC enc l)) (hl : l.length ≤ 1000000)
    (hcmp : ∀ (m : Nat) (os : Array Obj) (dk : Array α), dk.size = l.length → ∀ x y : α, Calls Try.prog K (#[.agg (enc x).toArray, .agg (enc y).toArray] ++ caps) (Go.Proofs.sortWorldK enc s w g 0 m dk os) fun e w' => e = .returned (.int .i64 (cf x y)) ∧ ∃ q os', w' = Sort.grow ((Go.Proofs.sortWorldK enc s w g 0 m dk os).drewN q) os') :
    Calls Try.prog (ρ.f 20) #[.slice (some ⟨g, 0, none⟩) l.length cap, .int .i64 0, .int .i64 l.length, .func (.func K) #[] caps] w fun e w' =>
      e = .returned (.tuple #[]) ∧ ∃ l', l'.Perm l ∧ l'.Pairwise (fun a b => ltOf cf b a = false) ∧ w'.ownsRow B E s (.slice (some ⟨g, 0, none⟩) l.length cap) l.length (enC enc l') ∧ w.grownBy w' (some g) := by
  rcases hown.2 with ⟨h, -⟩ | ⟨g', cap', cur, h, hB, hg, hn, hm, hcs, htk⟩
  · simp at h
  · simp only [Value.slice.injEq, Option.some.injEq, Addr.mk.injEq, and_true, true_and] at h
    obtain ⟨rfl, rfl⟩ := h
    have hlt : g < w.heap.size := (Array.getElem?_eq_some_iff.1 hg).1
    have hcl : l.length * s ≤ cur.size := by
      rw [hcs]
      exact Nat.mul_le_mul_right s hn
    have hH : Sort.HoldsK enc s w g 0 l.toArray := by
      intro j hj
      have hj2 : j < l.length * s := by simpa using hj
      have hjc : j < cur.size := by omega
      have e : (Sort.flatK enc s l.toArray)[j]! = cur[j] := by
        have h1 : (Sort.flatK enc s l.toArray).toList = cur.toList.take (l.length * s) := by rw [flatK_enC hs h0, htk]
        have h2 : (Sort.flatK enc s l.toArray).toList[j]? = (cur.toList.take (l.length * s))[j]? := by rw [h1]
        rw [List.getElem?_take, if_pos hj2, Array.getElem?_toList, Array.getElem?_toList, Array.getElem?_eq_getElem hj, Array.getElem?_eq_getElem hjc] at h2
        rw [getElem!_pos (Sort.flatK enc s l.toArray) j hj]
        exact Option.some.inj h2
      rw [e]
      constructor
      · simp [World.cell?, hg, hjc]
      · simp [World.frozen?, hg]
    have hcon := AnyQ.insertionSortCmpFunc L s aE zE enc hs h1 cf K caps g 0 cap 0 l.length l.toArray w eg (fun m os dk hd x y => hcmp m os dk (by simpa using hd) x y) hH hlt (Nat.zero_le _) (by simp) (by simp; omega)
    refine Calls.mono (by simpa using hcon) ?_
    rintro e w' ⟨rfl, n, os, rfl⟩
    obtain ⟨hp, hs2⟩ := Sort.insertionSort_holds (lt := ltOf cf) hO l.toArray 0 l.length (Nat.zero_le _) (by simp)
    generalize Sort.insertionSort (ltOf cf) l.toArray 0 l.length = d' at *
    obtain ⟨hp1, -, hp3⟩ := hp
    have hsz : d'.size = l.length := by simpa using hp1
    have hperm : d'.toList.Perm l := by
      have h1 : (d'.extract 0 l.length).toList = d'.toList := by
        rw [show l.length = d'.size from hsz.symm, Array.extract_size]
      have h2 : (l.toArray.extract 0 l.length).toList = l := by
        rw [show l.length = l.toArray.size from by simp, Array.extract_size]
      rw [h1, h2] at hp3
      exact hp3
    refine ⟨rfl, d'.toList, hperm, ?_, ?_, ?_⟩
    · rw [List.pairwise_iff_getElem]
      intro i j hi hj hij
      simp only [Array.length_toList] at hi hj
      have h := hs2 i j (Nat.zero_le _) hij (by omega)
      rw [getElem!_pos d' j hj, getElem!_pos d' i hi] at h
      simpa using h
    · have hF : (Sort.flatK enc s d').size = l.length * s := by simp [hsz]
      refine ⟨by rw [enC_len hs]; simp [hsz], .inr ⟨g, cap, Sort.putCells id 0 (Sort.flatK enc s d') cur, rfl, hB, ?_, hn, hm, ?_, ?_⟩⟩
      · show (w.heap.modify g (Sort.onCells (Sort.putCells id 0 (Sort.flatK enc s d'))) ++ os)[g]? = _
        rw [Array.getElem?_append_left (by simpa using hlt), Array.getElem?_modify, if_pos rfl, hg]
        rfl
      · simp [Sort.putCells, hcs]
      · rw [← flatK_enC hs h0]
        apply List.ext_getElem?
        intro t
        by_cases ht : t < l.length * s
        · have htc : t < cur.size := by omega
          have htf : t < (Sort.flatK enc s d').size := by rw [hF]; exact ht
          rw [List.getElem?_take, if_pos ht, Array.getElem?_toList, Array.getElem?_toList, Array.getElem?_eq_getElem htf]
          simp only [Sort.putCells, Array.getElem?_mapIdx, Array.getElem?_eq_getElem htc, Option.map_some]
          rw [if_pos ⟨Nat.zero_le _, by rw [Nat.zero_add]; exact htf⟩]
          simp only [Nat.sub_zero, id_eq]
          rw [getElem!_pos (Sort.flatK enc s d') t htf]
        · rw [List.getElem?_eq_none (by rw [List.length_take]; omega), List.getElem?_eq_none (by rw [Array.length_toList, hF]; omega)]
    · refine ⟨rfl, rfl, rfl, ?_, fun k hk hne => ?_⟩
      · show _ ≤ (w.heap.modify g _ ++ os).size
        simp
      · show (w.heap.modify g _ ++ os)[k]? = _
        rw [Array.getElem?_append_left (by simpa using hk), Array.getElem?_modify, if_neg (fun e => hne (by rw [e]))]


def cmC (x y : Int) : Int := if x < y then -1 else if y < x then 1 else 0
theorem nanC (x : Int) (w : World) : Calls Try.prog 71 #[.int .i64 x] w fun e w' => e = .returned (.bool false) ∧ w = w' := by
  go_enter Try.func71, Try.ntmps71
  go_wp2
  go_ret
  simp
theorem compC (x y : Int) (w : World) : Calls Try.prog 61 #[.int .i64 x, .int .i64 y] w fun e w' => e = .returned (.int .i64 (cmC x y)) ∧ w = w' := by
  obtain ⟨r, hr⟩ : ∃ r, cmC x y = r := ⟨_, rfl⟩
  rw [hr]
  by_cases h1 : x < y
  · have hr1 : r = -1 := by rw [← hr]; unfold cmC; rw [if_pos h1]
    subst hr1
    clear hr
    go_enter Try.func61, Try.ntmps61
    go_wp2_with (go_at_call 71; refine (nanC _ _).mono ?_; rintro e w' ⟨rfl, rfl⟩)
    go_ret
    exact ⟨rfl, rfl⟩
  · have h1' : y ≤ x := by omega
    by_cases h2 : y < x
    · have hr1 : r = 1 := by rw [← hr]; unfold cmC; rw [if_neg h1, if_pos h2]
      subst hr1
      clear hr
      go_enter Try.func61, Try.ntmps61
      go_wp2_with (go_at_call 71; refine (nanC _ _).mono ?_; rintro e w' ⟨rfl, rfl⟩)
      go_ret
      exact ⟨rfl, rfl⟩
    · have hr1 : r = 0 := by rw [← hr]; unfold cmC; rw [if_neg h1, if_neg h2]
      subst hr1
      clear hr
      go_enter Try.func61, Try.ntmps61
      go_wp2_with (go_at_call 71; refine (nanC _ _).mono ?_; rintro e w' ⟨rfl, rfl⟩)
      go_ret
      exact ⟨rfl, rfl⟩

theorem cmpFc (x y : Fc) (w : World) : Calls Try.prog 60 #[.agg (fcE x).toArray, .agg (fcE y).toArray] w fun e w' => e = .returned (.int .i64 (cmC x.ent y.ent)) ∧ ∃ q os', w' = Sort.grow (w.drewN q) os' := by
  have HC := Lib.hid (fun W' => compC x.ent y.ent W')
  obtain ⟨r, hr⟩ : ∃ r, cmC x.ent y.ent = r := ⟨_, rfl⟩
  rw [hr] at HC ⊢
  clear hr
  obtain ⟨s0, s1, s2, s3, s4, s5⟩ := x
  obtain ⟨t0, t1, t2, t3, t4, t5⟩ := y
  unfold fcE
  simp only at HC ⊢
  obtain ⟨W0, hW0⟩ : ∃ W0, W0 = (w.alloc (.cells #[.int .i64 s0, .string s1, .int .i64 s2, .int .i64 s3, .int .i64 s4, .int .i64 s5] 72)).alloc (.cells #[.int .i64 t0, .string t1, .int .i64 t2, .int .i64 t3, .int .i64 t4, .int .i64 t5] 72) := ⟨_, rfl⟩
  have hG0 : ∃ q os, W0 = Sort.grow (w.drewN q) os := ⟨0, _, by rw [hW0, Sort.alloc_eq_grow, Sort.alloc_eq_grow, Sort.grow_grow]; rfl⟩
  have HG0 := Lib.hid hG0
  have HW0 := Lib.hid hW0
  clear hG0 hW0
  go_enter Try.func60, Try.ntmps60
  go_wp2_with fail
  rw [← HW0.out]
  refine (HC.out W0).mono ?_
  rintro e w2 ⟨rfl, h2⟩
  obtain rfl := h2
  go_wp2_with fail
  go_ret
  exact ⟨rfl, HG0.out⟩

def layFc_ren : Go.Shelf.Ren := ⟨fun | 20 => 75 | n => n, fun | 22 => 55 | 24 => 72 | 25 => 82 | 0 => 0 | 3 => 3 | 4 => 4 | n => n, fun | n => n⟩
theorem layFc : Go.Proofs.SlLaysF0.n20 Try.prog layFc_ren := {
  mixed := by kernel_rfl,
  f20 := ⟨Try.f75.name, by decide, Try.func75.trans (congrArg some (by kernel_rfl))⟩,
  t0 := Try.underlying0,
  a0 := Try.isAgg0,
  z0 := Try.sizeOf0,
  v0 := Try.zeroValue0,
  t3 := Try.underlying3,
  a3 := Try.isAgg3,
  z3 := Try.sizeOf3,
  v3 := Try.zeroValue3,
  t4 := Try.underlying4,
  a4 := Try.isAgg4,
  z4 := Try.sizeOf4,
  v4 := Try.zeroValue4,
  t22 := Try.underlying55,
  a22 := Try.isAgg55,
  z22 := Try.sizeOf55,
  v22 := Try.zeroValue55,
  t25 := Try.underlying82,
  a25 := Try.isAgg82,
  z25 := Try.sizeOf82,
  v25 := Try.zeroValue82 }

theorem ltFc (x y : Fc) : ltOf (fun x y : Fc => cmC x.ent y.ent) x y = decide (x.ent < y.ent) := by
  unfold ltOf cmC
  by_cases h1 : x.ent < y.ent
  · simp [h1]
  · by_cases h2 : y.ent < x.ent <;> simp [h1, h2]
theorem swoFc : Sort.SWO (ltOf fun x y : Fc => cmC x.ent y.ent) where
  irrefl x := by rw [ltFc]; simp
  trans x y z h1 h2 := by rw [ltFc] at *; simp at *; omega
  ntrans x y z h1 h2 := by rw [ltFc] at *; simp at *; omega

/-- The facts in the order of their entries. -/
def FcSorted (l : List Fc) : Prop := l.Pairwise fun a b => a.ent ≤ b.ent

theorem ins0Fc (a : Option Addr) (cap K : Nat) (caps : Array Value) (w : World) :
    Calls Try.prog 75 #[.slice a 0 cap, .int .i64 0, .int .i64 0, .func (.func K) #[] caps] w fun e w' => e = .returned (.tuple #[]) ∧ w = w' := by
  go_enter Try.func75, Try.ntmps75
  go_wp2_with fail
  refine wp_loop_rounds 1 ?_
  rw [rounds_succ]
  go_wp2_with fail
  go_end0
  exact ⟨rfl, rfl⟩

theorem grown_more {w w' : World} {r : Option Nat} (h : w.grownBy w' none) : w.grownBy w' r := ⟨h.os, h.tape, h.output, h.size, fun k hk _ => h.block k hk (by simp)⟩

theorem insFc (B E : Nat) (v : Value) (l : List Fc) (w : World) (hown : w.ownsRow B E 6 v l.length (enC fcE l)) (hl : l.length ≤ 12) :
    Calls Try.prog 75 #[v, .int .i64 0, .int .i64 l.length, .func (.func 60) #[] #[]] w fun e w' => e = .returned (.tuple #[]) ∧ ∃ l', l'.Perm l ∧ FcSorted l' ∧ w'.ownsRow B E 6 v l.length (enC fcE l') ∧ w.grownBy w' v.ownBlock := by
  rcases Nat.eq_zero_or_pos l.length with h0 | hpos
  · have hl0 : l = [] := List.eq_nil_of_length_eq_zero h0
    subst hl0
    obtain ⟨a, cap, rfl, -, -⟩ := owns_slice hown
    refine (ins0Fc a cap _ _ w).mono ?_
    rintro e w' ⟨rfl, rfl⟩
    exact ⟨rfl, [], List.Perm.refl _, List.Pairwise.nil, hown, grown_more (grown_of_below (Below.refl _ _))⟩
  · obtain ⟨g, cap, rfl, hBg, hgl, -⟩ := owns_some hown hpos
    have h := insSorted_any (ρ := layFc_ren) layFc fcE_len (by decide) fcE_one Try.isAgg72 Try.sizeOf72 (fun x y : Fc => cmC x.ent y.ent) swoFc 60 #[]
      (enters_of Try.func60 (by kernel_rfl) rfl) B E g cap l w hown (by omega) (fun m os dk hd x y => cmpFc x y _)
    change Calls Try.prog 75 _ _ _ at h
    refine Calls.mono h ?_
    rintro e w' ⟨rfl, l', hp, hs, ho, hg⟩
    refine ⟨rfl, l', hp, ?_, ho, hg⟩
    refine hs.imp fun {a b} hab => ?_
    rw [ltFc] at hab
    simpa using hab

set_option maxRecDepth 100000 in
theorem pdqFc (B E : Nat) (v : Value) (l : List Fc) (n : Int) (w : World) (hown : w.ownsRow B E 6 v l.length (enC fcE l)) (hl : l.length ≤ 12) :
    Calls Try.prog 69 #[v, .int .i64 0, .int .i64 l.length, .int .i64 n, .func (.func 60) #[] #[]] w fun e w' => e = .returned (.tuple #[]) ∧ ∃ l', l'.Perm l ∧ FcSorted l' ∧ w'.ownsRow B E 6 v l.length (enC fcE l') ∧ w.grownBy w' v.ownBlock := by
  have HI := Lib.hid (insFc B E v l w hown hl)
  obtain ⟨a, cap, rfl, -, -⟩ := owns_slice hown
  have hd : decide ((l.length : Int) ≤ 12) = true := by simp; omega
  have hle : (l.length : Int) ≤ 12 := by omega
  have hle2 : l.length ≤ 12 := hl
  have hwr : IntKind.i64.wrap ((l.length : Int) - 0) = (l.length : Int) := by rw [IntKind.wrap_i64]; omega
  clear hown hl
  go_enter Try.func69, Try.ntmps69
  go_wp2_with fail
  refine wp_loop_rounds 1 ?_
  rw [rounds_succ]
  go_wp2_with fail
  refine HI.out.mono ?_
  rintro e w1 ⟨rfl, l', hp, hs, ho, hb⟩
  have HR : Hid (∃ l', l'.Perm l ∧ FcSorted l' ∧ w1.ownsRow B E 6 (.slice a l.length cap) l.length (enC fcE l') ∧ w.grownBy w1 (Value.slice a l.length cap).ownBlock) := ⟨l', hp, hs, ho, hb⟩
  clear hp hs ho hb HI
  go_wp2_with fail
  refine bodyPost_ret (results_none rfl _ _ _) rfl ?_
  exact ⟨rfl, HR.out⟩

set_option maxRecDepth 100000 in
theorem sortFc (B E : Nat) (v : Value) (l : List Fc) (w : World) (hown : w.ownsRow B E 6 v l.length (enC fcE l)) (hl : l.length ≤ 12) :
    Calls Try.prog 59 #[v, .func (.func 60) #[] #[]] w fun e w' => e = .returned (.tuple #[]) ∧ ∃ l', l'.Perm l ∧ FcSorted l' ∧ w'.ownsRow B E 6 v l.length (enC fcE l') ∧ w.grownBy w' v.ownBlock := by
  have HI := Lib.hid (fun n => pdqFc B E v l n w hown hl)
  have HL := Lib.hid (fun w7 => bitsLen l.length w7 (by omega) (by omega))
  obtain ⟨a, cap, rfl, -, -⟩ := owns_slice hown
  have hwr : IntKind.u64.wrap (l.length : Int) = (l.length : Int) := by rw [IntKind.wrap_u64]; omega
  clear hown hl
  go_enter Try.func59, Try.ntmps59
  go_wp2_with fail
  refine (HL.out w).mono ?_
  rintro e w7 ⟨rfl, h7⟩
  obtain rfl := h7.symm
  go_wp2_with fail
  refine (HI.out _).mono ?_
  rintro e w1 ⟨rfl, l', hp, hs, ho, hb⟩
  have HR : Hid (∃ l', l'.Perm l ∧ FcSorted l' ∧ w1.ownsRow B E 6 (.slice a l.length cap) l.length (enC fcE l') ∧ w.grownBy w1 (Value.slice a l.length cap).ownBlock) := ⟨l', hp, hs, ho, hb⟩
  clear hp hs ho hb HI
  go_wp2_with fail
  go_end0
  exact ⟨rfl, HR.out⟩

end Go.Proofs.Ytgfnelpfoegdaaa
