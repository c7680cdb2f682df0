/-
  IndexFunc and find at papers, for a function that only reads.
  Rows of elements that are so many cells each; the insertion sort of the library at such a row, in the words of the walks.
  Deliveries and reports as rows; IndexFunc at both, find at deliveries. (Printed by wip/tools/gen_cr.py.)
  Compare and Or at ints; what the closures of sorted say of deliveries.
  sorted at deliveries, where none is behind the last day.
  What the closures of sorted say of reports. (Printed by wip/tools/gen_cr5.py.)
  sorted at reports, where none is behind the last day.
  IndexFunc and find at ways, for a function that only reads. (Printed by wip/tools/gen_cr.py.)
-/
import Derived.Test.YtdhiefgbajogcaaRtX
import Derived.Shelf.SlSortCmp.InsertionK
import Derived.Test.YtdhiefgbajogcaaMem
import Derived.Test.YtdhiefgbajogcaaProg
import Derived.Test.YtdhiefgbajogcaaChecked
namespace Go.Proofs.Ytdhiefgbajogcaa
open Go.RowKit

/-- The first index for which p is true, or -1. -/
def idxF {α : Type} (p : α → Bool) (l : List α) : Int := match l.findIdx? p with
  | none => -1
  | some i => (i : Int)
theorem idxF_here {α : Type} {p : α → Bool} {l : List α} {k : Nat} (hk : k < l.length) (hb : ∀ j (h : j < l.length), j < k → p l[j] = false) (hp : p l[k] = true) : idxF p l = (k : Int) := by
  have h : l.findIdx? p = some k := List.findIdx?_eq_some_iff_getElem.2 ⟨hk, hp, fun j hj => by rw [hb j (by omega) hj]; decide⟩
  unfold idxF
  rw [h]
theorem idxF_none {α : Type} {p : α → Bool} {l : List α} (hb : ∀ j (h : j < l.length), p l[j] = false) : idxF p l = -1 := by
  have h : l.findIdx? p = none := by
    rw [List.findIdx?_eq_none_iff]
    intro x hx
    obtain ⟨i, hi, rfl⟩ := List.mem_iff_getElem.1 hx
    exact hb i hi
  unfold idxF
  rw [h]

/-- The function can be entered by its number. -/
def CanCall (K : Nat) : Prop := ∀ (args : Array Value) (W : World), Sem.run Try.prog (callFunc K args) W = .ok (.enter K args) W

set_option maxHeartbeats 2000000 in
set_option maxRecDepth 100000 in
theorem idxPaper (l : List Ret) (p : Ret → Bool) (K : Nat) (caps : Array Value) (v : Value) (w : World) (hx : IsRts w v l) (hK : CanCall K)
    (hf : ∀ (i : Nat) (h : i < l.length) (W : World), Below w.heap.size w W → Calls Try.prog K (#[.agg (litRt l[i])] ++ caps) W fun e w' => e = .returned (.bool (p l[i])) ∧ Below W.heap.size W w') :
    Calls Try.prog 75 #[v, .func (.func K) #[] caps] w fun e w' => e = .returned (.int .i64 (idxF p l)) ∧ Below w.heap.size w w' := by
  have HX := Lib.hid hx
  have HFN := Lib.hid hf
  obtain ⟨a, c, rfl, hlm, -⟩ := hx.open
  unfold maxLen at hlm
  obtain ⟨R, hR⟩ : ∃ R, idxF p l = R := ⟨_, rfl⟩
  have HRH : Hid (∀ k (hk : k < l.length), (∀ j (h : j < l.length), j < k → p l[j] = false) → p l[k] = true → R = (k : Int)) := fun k hk h1 h2 => by rw [← hR]; exact idxF_here hk h1 h2
  have HRN : Hid ((∀ j (h : j < l.length), p l[j] = false) → R = -1) := fun h1 => by rw [← hR]; exact idxF_none h1
  rw [hR]
  have HK := Lib.hid hK
  clear hx hf hR hK
  go_enter Try.func75, Try.ntmps75
  go_wp2_with fail
  go_loopw [8] (fun i wr => ∃ k : Nat, i = .int .i64 k ∧ k ≤ l.length ∧ Hid (∀ j (h : j < l.length), j < k → p l[j] = false) ∧ Hid (Below w.heap.size w wr)) (fun i _ => l.length - (intOf i).toNat)
  case atStart => exact ⟨0, rfl, Nat.zero_le _, fun j _ h => absurd h (Nat.not_lt_zero _), Lib.hid (Below.refl _ _)⟩
  case round =>
    obtain ⟨k, rfl, hk, HPR, HB⟩ := hrel
    by_cases hkl : k < l.length
    · have ek : IntKind.i64.wrap ((k : Int) + 1) = ((k + 1 : Nat) : Int) := by rw [IntKind.wrap_i64]; omega
      obtain ⟨b1, o1, q1, e1, -, c0, c1', c2, c3⟩ := (HX.out.below HB.out).at hkl
      simp only [Value.slice.injEq, true_and] at e1
      obtain ⟨rfl, -⟩ := e1
      have hkI : (k : Int) < (l.length : Int) := by omega
      have HC := Lib.hid (HFN.out k hkl wr HB.out)
      have HRK := Lib.hid (HRH.out k hkl HPR.out)
      have HPN : Hid (p l[k] = false → ∀ j (h : j < l.length), j < k + 1 → p l[j] = false) := fun h j hj hjk => by
        rcases Nat.lt_succ_iff_lt_or_eq.1 hjk with g | rfl
        · exact HPR.out j hj g
        · exact h
      obtain ⟨pb, hpb⟩ : ∃ b, p l[k] = b := ⟨_, rfl⟩
      rw [hpb] at HC HRK HPN
      clear hpb
      generalize l[k] = s at *
      obtain ⟨s0, s1, s2, s3⟩ := s
      simp only at c0 c1' c2 c3
      go_wp2_with fail
      rw [HK.out, Oper.upon_enter]
      refine HC.out.mono ?_
      rintro e w3 ⟨rfl, hb3⟩
      have HB3 := Lib.hid (Below.to HB.out hb3 HB.out.size)
      clear hb3 HC
      cases pb with
      | true =>
        have HR9 := Lib.hid (HRK.out rfl)
        clear HRK HPN
        go_wp2_with fail
        go_ret
        exact ⟨ret_int HR9.out.symm, HB3.out⟩
      | false =>
        have HP9 := Lib.hid (HPN.out rfl)
        clear HRK HPN
        go_wp2_with fail
        go_roundw
        case rel => exact ⟨k + 1, by go_num, by omega, HP9, HB3⟩
        case measure => simp [intOf]; omega
    · have hkI : ¬ (k : Int) < (l.length : Int) := by omega
      have HR9 := Lib.hid (HRN.out (fun j hj => HPR.out j hj (by omega)))
      go_wp2_with fail
      go_ret
      exact ⟨ret_int HR9.out.symm, HB.out⟩

set_option maxRecDepth 100000 in
theorem findPaper (l : List Ret) (p : Ret → Bool) (K : Nat) (caps : Array Value) (v : Value) (w : World) (hx : IsRts w v l) (hK : CanCall K)
    (hf : ∀ (i : Nat) (h : i < l.length) (W : World), Below w.heap.size w W → Calls Try.prog K (#[.agg (litRt l[i])] ++ caps) W fun e w' => e = .returned (.bool (p l[i])) ∧ Below W.heap.size W w') :
    Calls Try.prog 50 #[v, .func (.func K) #[] caps] w fun e w' => e = .returned (.int .i64 (idxF p l)) ∧ Below w.heap.size w w' := by
  have HI := Lib.hid (idxPaper l p K caps v w hx hK hf)
  obtain ⟨a, c, rfl, -, -⟩ := hx.open
  clear hx hK hf
  go_enter Try.func50, Try.ntmps50
  go_wp2_with fail
  refine HI.out.mono ?_
  rintro e w3 ⟨rfl, hb3⟩
  have HB3 := Lib.hid hb3
  clear hb3
  go_wp2_with fail
  go_ret
  exact ⟨rfl, HB3.out⟩

set_option maxRecDepth 100000 in
theorem canCall50 : CanCall 51 := fun _ _ => rfl

end Go.Proofs.Ytdhiefgbajogcaa

namespace Go.Proofs.Ytdhiefgbajogcaa
open Go.RowKit

section
variable {α : Type} (enc : α → List Value) (s : Nat)
def enC (l : List α) : List Value := (l.map enc).flatten
variable {enc} {s}
theorem enC_rows (hs : ∀ x, (enc x).length = s) (l : List α) : ∀ r ∈ l.map enc, r.length = s := fun r hr => by
  obtain ⟨x, -, rfl⟩ := List.mem_map.1 hr
  exact hs x
theorem enC_len (hs : ∀ x, (enc x).length = s) (l : List α) : (enC enc l).length = l.length * s := by
  rw [enC, flat_len s _ (enC_rows hs l), List.length_map]
theorem enC_get (hs : ∀ x, (enc x).length = s) (l : List α) (i k : Nat) (hi : i < l.length) (hk : k < s) : (enC enc l)[i * s + k]? = (enc l[i])[k]? := by
  rw [enC, flat_get s _ i k (by simpa using hi) (enC_rows hs l) hk, List.getElem_map]
theorem enC_append (l m : List α) : enC enc (l ++ m) = enC enc l ++ enC enc m := by simp [enC]
theorem enC_single (x : α) : enC enc [x] = enc x := by simp [enC]
theorem enC_one (h1 : ∀ x, ∀ v ∈ enc x, v.oneCell' = true) (l : List α) : ∀ u ∈ enC enc l, u.oneCell' = true := by
  intro u hu
  obtain ⟨r, hr, hur⟩ := List.mem_flatten.1 hu
  obtain ⟨x, -, rfl⟩ := List.mem_map.1 hr
  exact h1 x u hur

theorem flatK_enC [Inhabited α] (hs : ∀ x, (enc x).length = s) (h0 : 0 < s) (d : Array α) : (Sort.flatK enc s d).toList = enC enc d.toList := by
  apply List.ext_getElem?
  intro t
  by_cases ht : t < d.size * s
  · obtain ⟨i, k, rfl, hi, hk⟩ : ∃ i k, t = i * s + k ∧ i < d.size ∧ k < s := by
      have hm : t % s < s := Nat.mod_lt _ h0
      have hd : t / s < d.size := (Nat.div_lt_iff_lt_mul h0).2 ht
      exact ⟨t / s, t % s, by rw [Nat.mul_comm]; exact (Nat.div_add_mod t s).symm, hd, hm⟩
    rw [enC_get hs d.toList i k (by simpa using hi) hk]
    have e1 : (i * s + k) / s = i := by rw [Nat.mul_comm, Nat.mul_add_div h0, Nat.div_eq_of_lt hk, Nat.add_zero]
    have e2 : (i * s + k) % s = k := by rw [Nat.mul_comm, Nat.mul_add_mod, Nat.mod_eq_of_lt hk]
    have hss : i * s + k < (Sort.flatK enc s d).size := by simpa using ht
    have hg := Sort.get_flatK enc s d (i * s + k) ht
    rw [e1, e2] at hg
    rw [Array.getElem?_toList, Array.getElem?_eq_getElem hss]
    rw [getElem!_pos (Sort.flatK enc s d) (i * s + k) hss] at hg
    rw [hg, getElem!_pos d i hi, Array.getElem_toList]
    have hkl : k < (enc d[i]).length := by rw [hs]; exact hk
    rw [List.getElem?_eq_getElem hkl, getElem!_pos (enc d[i]) k hkl]
  · rw [List.getElem?_eq_none (by simp; omega), List.getElem?_eq_none (by rw [enC_len hs]; simp; omega)]

/-- The world of the sort: another block reads as before. -/
theorem sortWorldK_cell (w : World) (g m : Nat) (dk : Array α) [Inhabited α] (os : Array Obj) {p : Addr} (hp : p.block ≠ g) (hlt : p.block < w.heap.size) : (Go.Proofs.sortWorldK enc s w g 0 m dk os).cell? p = w.cell? p := by
  have hb : (Go.Proofs.sortWorldK enc s w g 0 m dk os).heap[p.block]? = w.heap[p.block]? := by
    show (w.heap.modify g (Sort.onCells (Sort.putCells id 0 (Sort.flatK enc s dk))) ++ os)[p.block]? = _
    rw [Array.getElem?_append_left (by simpa using hlt), Array.getElem?_modify, if_neg (fun e => hp e.symm)]
  unfold World.cell?
  rw [hb]
end

set_option maxHeartbeats 1000000 in
theorem insSort_any {α : Type} [Inhabited α] {enc : α → List Value} {s : Nat} {ρ : Go.Shelf.Ren} (L : Go.Proofs.SlLaysF0.n20 Try.prog ρ) (hs : ∀ x, (enc x).length = s) (h0 : 0 < s) (h1 : ∀ x, ∀ v ∈ enc x, v.oneCell' = true)
    (aE : ∀ w, (isAgg (ρ.t 24)).run Try.prog w = .ok true w) (zE : ∀ w, (Go.sizeOf (ρ.t 24)).run Try.prog w = .ok s w) (cf : α → α → Int) (hO : Sort.SWO (ltOf cf)) (K : Nat) (caps : Array Value)
    (eg : ∀ args w, (callFunc K args).run Try.prog w = .ok (.enter K args) w) (B E g cap : Nat) (l : List α) (w : World)
    (hown : w.ownsRow B E s (.slice (some ⟨g, 0, none⟩) l.length cap) l.length (enC enc l)) (hl : l.length ≤ 1000000)
    (hcmp : ∀ (m : Nat) (os : Array Obj) (dk : Array α), dk.size = l.length → ∀ x y : α, Calls Try.prog K (#[.agg (enc x).toArray, .agg (enc y).toArray] ++ caps) (Go.Proofs.sortWorldK enc s w g 0 m dk os) fun e w' => e = .returned (.int .i64 (cf x y)) ∧ ∃ q os', w' = Sort.grow ((Go.Proofs.sortWorldK enc s w g 0 m dk os).drewN q) os') :
    Calls Try.prog (ρ.f 20) #[.slice (some ⟨g, 0, none⟩) l.length cap, .int .i64 0, .int .i64 l.length, .func (.func K) #[] caps] w fun e w' =>
      e = .returned (.tuple #[]) ∧ ∃ l', l'.Perm l ∧ w'.ownsRow B E s (.slice (some ⟨g, 0, none⟩) l.length cap) l.length (enC enc l') ∧ w.grownBy w' (some g) := by
  rcases hown.2 with ⟨h, -⟩ | ⟨g', cap', cur, h, hB, hg, hn, hm, hcs, htk⟩
  · simp at h
  · simp only [Value.slice.injEq, Option.some.injEq, Addr.mk.injEq, and_true, true_and] at h
    obtain ⟨rfl, rfl⟩ := h
    have hlt : g < w.heap.size := (Array.getElem?_eq_some_iff.1 hg).1
    have hcl : l.length * s ≤ cur.size := by
      rw [hcs]
      exact Nat.mul_le_mul_right s hn
    have hH : Sort.HoldsK enc s w g 0 l.toArray := by
      intro j hj
      have hj2 : j < l.length * s := by simpa using hj
      have hjc : j < cur.size := by omega
      have e : (Sort.flatK enc s l.toArray)[j]! = cur[j] := by
        have h1 : (Sort.flatK enc s l.toArray).toList = cur.toList.take (l.length * s) := by rw [flatK_enC hs h0, htk]
        have h2 : (Sort.flatK enc s l.toArray).toList[j]? = (cur.toList.take (l.length * s))[j]? := by rw [h1]
        rw [List.getElem?_take, if_pos hj2, Array.getElem?_toList, Array.getElem?_toList, Array.getElem?_eq_getElem hj, Array.getElem?_eq_getElem hjc] at h2
        rw [getElem!_pos (Sort.flatK enc s l.toArray) j hj]
        exact Option.some.inj h2
      rw [e]
      constructor
      · simp [World.cell?, hg, hjc]
      · simp [World.frozen?, hg]
    have hcon := AnyQ.insertionSortCmpFunc L s aE zE enc hs h1 cf K caps g 0 cap 0 l.length l.toArray w eg (fun m os dk hd x y => hcmp m os dk (by simpa using hd) x y) hH hlt (Nat.zero_le _) (by simp) (by simp; omega)
    refine Calls.mono (by simpa using hcon) ?_
    rintro e w' ⟨rfl, n, os, rfl⟩
    obtain ⟨hp, -⟩ := Sort.insertionSort_holds (lt := ltOf cf) hO l.toArray 0 l.length (Nat.zero_le _) (by simp)
    generalize Sort.insertionSort (ltOf cf) l.toArray 0 l.length = d' at *
    obtain ⟨hp1, -, hp3⟩ := hp
    have hsz : d'.size = l.length := by simpa using hp1
    have hperm : d'.toList.Perm l := by
      have h1 : (d'.extract 0 l.length).toList = d'.toList := by
        rw [show l.length = d'.size from hsz.symm, Array.extract_size]
      have h2 : (l.toArray.extract 0 l.length).toList = l := by
        rw [show l.length = l.toArray.size from by simp, Array.extract_size]
      rw [h1, h2] at hp3
      exact hp3
    refine ⟨rfl, d'.toList, hperm, ?_, ?_⟩
    · have hF : (Sort.flatK enc s d').size = l.length * s := by simp [hsz]
      refine ⟨by rw [enC_len hs]; simp [hsz], .inr ⟨g, cap, Sort.putCells id 0 (Sort.flatK enc s d') cur, rfl, hB, ?_, hn, hm, ?_, ?_⟩⟩
      · show (w.heap.modify g (Sort.onCells (Sort.putCells id 0 (Sort.flatK enc s d'))) ++ os)[g]? = _
        rw [Array.getElem?_append_left (by simpa using hlt), Array.getElem?_modify, if_pos rfl, hg]
        rfl
      · simp [Sort.putCells, hcs]
      · rw [← flatK_enC hs h0]
        apply List.ext_getElem?
        intro t
        by_cases ht : t < l.length * s
        · have htc : t < cur.size := by omega
          have htf : t < (Sort.flatK enc s d').size := by rw [hF]; exact ht
          rw [List.getElem?_take, if_pos ht, Array.getElem?_toList, Array.getElem?_toList, Array.getElem?_eq_getElem htf]
          simp only [Sort.putCells, Array.getElem?_mapIdx, Array.getElem?_eq_getElem htc, Option.map_some]
          rw [if_pos ⟨Nat.zero_le _, by rw [Nat.zero_add]; exact htf⟩]
          simp only [Nat.sub_zero, id_eq]
          rw [getElem!_pos (Sort.flatK enc s d') t htf]
        · rw [List.getElem?_eq_none (by rw [List.length_take]; omega), List.getElem?_eq_none (by rw [Array.length_toList, hF]; omega)]
    · refine ⟨rfl, rfl, rfl, ?_, fun k hk hne => ?_⟩
      · show _ ≤ (w.heap.modify g _ ++ os).size
        simp
      · show (w.heap.modify g _ ++ os)[k]? = _
        rw [Array.getElem?_append_left (by simpa using hk), Array.getElem?_modify, if_neg (fun e => hne (by rw [e]))]

end Go.Proofs.Ytdhiefgbajogcaa

namespace Go.Proofs.Ytdhiefgbajogcaa
open Go.RowKit

structure Dl where
  att : Int
  par : Int
  day : Int
structure Rp where
  att : Int
  day : Int
  ret : Ret
instance : Inhabited Dl := ⟨⟨0, 0, 0⟩⟩
instance : Inhabited Rp := ⟨⟨0, 0, ⟨0, 0, 0, 0⟩⟩⟩

/-- The cells of a delivery. -/
def dlE (x : Dl) : List Value := [.int .i64 x.att, .int .i64 x.par, .int .i64 x.day]
def litDl (x : Dl) : Array Value := #[.int .i64 x.att, .int .i64 x.par, .int .i64 x.day]
theorem dlE_len (x : Dl) : (dlE x).length = 3 := rfl
theorem dlE_one (x : Dl) : ∀ v ∈ dlE x, v.oneCell' = true := by
  intro v hv
  simp [dlE] at hv
  rcases hv with rfl | rfl | rfl <;> rfl
def IsDls (w : World) (v : Value) (l : List Dl) : Prop := Rd w v 3 l.length (enC dlE l)
theorem IsDls.below {w w' : World} {v : Value} {l : List Dl} (h : IsDls w v l) (hb : Below w.heap.size w w') : IsDls w' v l := Rd.below h hb
theorem IsDls.nil (w : World) (a : Option Addr) (cap : Nat) : IsDls w (.slice a 0 cap) [] := Rd.nil w a 3 cap
theorem IsDls.of_owns {w : World} {B e n : Nat} {v : Value} {l : List Dl} (h : w.ownsRow B e 3 v n (enC dlE l)) : IsDls w v l := by
  have hn : n = l.length := by have := h.1; rw [enC_len dlE_len] at this; omega
  subst hn
  exact Rd.of_owns h
theorem IsDls.open {w : World} {v : Value} {l : List Dl} (h : IsDls w v l) : ∃ a cap, v = .slice a l.length cap ∧ l.length ≤ maxLen ∧ l.length ≤ cap := by
  obtain ⟨h1, h2, a, cap, rfl, hn, hc⟩ := h
  exact ⟨a, cap, rfl, h2, hn⟩
theorem IsDls.at {w : World} {v : Value} {l : List Dl} (h : IsDls w v l) {k : Nat} (hk : k < l.length) :
    ∃ b off cap, v = .slice (some ⟨b, off, none⟩) l.length cap ∧ b < w.heap.size ∧ w.cell? ⟨b, off + k * 3, none⟩ = some (.int .i64 l[k].att) ∧ w.cell? ⟨b, off + k * 3 + 1, none⟩ = some (.int .i64 l[k].par) ∧ w.cell? ⟨b, off + k * 3 + 2, none⟩ = some (.int .i64 l[k].day) := by
  obtain ⟨h1, h2, a, cap, rfl, hn, hc⟩ := h
  obtain ⟨b, off, rfl, c0⟩ := hc (k * 3 + 0) _ (by rw [enC_get dlE_len l k 0 hk (by omega)]; rfl)
  obtain ⟨_, _, e, c1⟩ := hc (k * 3 + 1) _ (by rw [enC_get dlE_len l k 1 hk (by omega)]; rfl)
  cases e
  obtain ⟨_, _, e, c2⟩ := hc (k * 3 + 2) _ (by rw [enC_get dlE_len l k 2 hk (by omega)]; rfl)
  cases e
  exact ⟨b, off, cap, rfl, World.block_lt_of_cell? _ _ c0, c0, c1, c2⟩

/-- The cells of a report. -/
def rpE (x : Rp) : List Value := [.int .i64 x.att, .int .i64 x.day, .int .i64 x.ret.car, .int .i64 x.ret.kind, .int .i64 x.ret.fr, .int .i64 x.ret.un]
def litRp (x : Rp) : Array Value := #[.int .i64 x.att, .int .i64 x.day, .int .i64 x.ret.car, .int .i64 x.ret.kind, .int .i64 x.ret.fr, .int .i64 x.ret.un]
theorem rpE_len (x : Rp) : (rpE x).length = 6 := rfl
theorem rpE_one (x : Rp) : ∀ v ∈ rpE x, v.oneCell' = true := by
  intro v hv
  simp [rpE] at hv
  rcases hv with rfl | rfl | rfl | rfl | rfl | rfl <;> rfl
def IsRps (w : World) (v : Value) (l : List Rp) : Prop := Rd w v 6 l.length (enC rpE l)
theorem IsRps.below {w w' : World} {v : Value} {l : List Rp} (h : IsRps w v l) (hb : Below w.heap.size w w') : IsRps w' v l := Rd.below h hb
theorem IsRps.nil (w : World) (a : Option Addr) (cap : Nat) : IsRps w (.slice a 0 cap) [] := Rd.nil w a 6 cap
theorem IsRps.of_owns {w : World} {B e n : Nat} {v : Value} {l : List Rp} (h : w.ownsRow B e 6 v n (enC rpE l)) : IsRps w v l := by
  have hn : n = l.length := by have := h.1; rw [enC_len rpE_len] at this; omega
  subst hn
  exact Rd.of_owns h
theorem IsRps.open {w : World} {v : Value} {l : List Rp} (h : IsRps w v l) : ∃ a cap, v = .slice a l.length cap ∧ l.length ≤ maxLen ∧ l.length ≤ cap := by
  obtain ⟨h1, h2, a, cap, rfl, hn, hc⟩ := h
  exact ⟨a, cap, rfl, h2, hn⟩
theorem IsRps.at {w : World} {v : Value} {l : List Rp} (h : IsRps w v l) {k : Nat} (hk : k < l.length) :
    ∃ b off cap, v = .slice (some ⟨b, off, none⟩) l.length cap ∧ b < w.heap.size ∧ w.cell? ⟨b, off + k * 6, none⟩ = some (.int .i64 l[k].att) ∧ w.cell? ⟨b, off + k * 6 + 1, none⟩ = some (.int .i64 l[k].day) ∧ w.cell? ⟨b, off + k * 6 + 2, none⟩ = some (.int .i64 l[k].ret.car) ∧ w.cell? ⟨b, off + k * 6 + 3, none⟩ = some (.int .i64 l[k].ret.kind) ∧ w.cell? ⟨b, off + k * 6 + 4, none⟩ = some (.int .i64 l[k].ret.fr) ∧ w.cell? ⟨b, off + k * 6 + 5, none⟩ = some (.int .i64 l[k].ret.un) := by
  obtain ⟨h1, h2, a, cap, rfl, hn, hc⟩ := h
  obtain ⟨b, off, rfl, c0⟩ := hc (k * 6 + 0) _ (by rw [enC_get rpE_len l k 0 hk (by omega)]; rfl)
  obtain ⟨_, _, e, c1⟩ := hc (k * 6 + 1) _ (by rw [enC_get rpE_len l k 1 hk (by omega)]; rfl)
  cases e
  obtain ⟨_, _, e, c2⟩ := hc (k * 6 + 2) _ (by rw [enC_get rpE_len l k 2 hk (by omega)]; rfl)
  cases e
  obtain ⟨_, _, e, c3⟩ := hc (k * 6 + 3) _ (by rw [enC_get rpE_len l k 3 hk (by omega)]; rfl)
  cases e
  obtain ⟨_, _, e, c4⟩ := hc (k * 6 + 4) _ (by rw [enC_get rpE_len l k 4 hk (by omega)]; rfl)
  cases e
  obtain ⟨_, _, e, c5⟩ := hc (k * 6 + 5) _ (by rw [enC_get rpE_len l k 5 hk (by omega)]; rfl)
  cases e
  exact ⟨b, off, cap, rfl, World.block_lt_of_cell? _ _ c0, c0, c1, c2, c3, c4, c5⟩

set_option maxHeartbeats 2000000 in
set_option maxRecDepth 100000 in
theorem idxDelivery (l : List Dl) (p : Dl → Bool) (K : Nat) (caps : Array Value) (v : Value) (w : World) (hx : IsDls w v l) (hK : CanCall K)
    (hf : ∀ (i : Nat) (h : i < l.length) (W : World), Below w.heap.size w W → Calls Try.prog K (#[.agg (litDl l[i])] ++ caps) W fun e w' => e = .returned (.bool (p l[i])) ∧ Below W.heap.size W w') :
    Calls Try.prog 86 #[v, .func (.func K) #[] caps] w fun e w' => e = .returned (.int .i64 (idxF p l)) ∧ Below w.heap.size w w' := by
  have HX := Lib.hid hx
  have HFN := Lib.hid hf
  obtain ⟨a, c, rfl, hlm, -⟩ := hx.open
  unfold maxLen at hlm
  obtain ⟨R, hR⟩ : ∃ R, idxF p l = R := ⟨_, rfl⟩
  have HRH : Hid (∀ k (hk : k < l.length), (∀ j (h : j < l.length), j < k → p l[j] = false) → p l[k] = true → R = (k : Int)) := fun k hk h1 h2 => by rw [← hR]; exact idxF_here hk h1 h2
  have HRN : Hid ((∀ j (h : j < l.length), p l[j] = false) → R = -1) := fun h1 => by rw [← hR]; exact idxF_none h1
  rw [hR]
  have HK := Lib.hid hK
  clear hx hf hR hK
  go_enter Try.func86, Try.ntmps86
  go_wp2_with fail
  go_loopw [8] (fun i wr => ∃ k : Nat, i = .int .i64 k ∧ k ≤ l.length ∧ Hid (∀ j (h : j < l.length), j < k → p l[j] = false) ∧ Hid (Below w.heap.size w wr)) (fun i _ => l.length - (intOf i).toNat)
  case atStart => exact ⟨0, rfl, Nat.zero_le _, fun j _ h => absurd h (Nat.not_lt_zero _), Lib.hid (Below.refl _ _)⟩
  case round =>
    obtain ⟨k, rfl, hk, HPR, HB⟩ := hrel
    by_cases hkl : k < l.length
    · have ek : IntKind.i64.wrap ((k : Int) + 1) = ((k + 1 : Nat) : Int) := by rw [IntKind.wrap_i64]; omega
      obtain ⟨b1, o1, q1, e1, -, x0, x1, x2⟩ := (HX.out.below HB.out).at hkl
      simp only [Value.slice.injEq, true_and] at e1
      obtain ⟨rfl, -⟩ := e1
      have hkI : (k : Int) < (l.length : Int) := by omega
      have HC := Lib.hid (HFN.out k hkl wr HB.out)
      have HRK := Lib.hid (HRH.out k hkl HPR.out)
      have HPN : Hid (p l[k] = false → ∀ j (h : j < l.length), j < k + 1 → p l[j] = false) := fun h j hj hjk => by
        rcases Nat.lt_succ_iff_lt_or_eq.1 hjk with g | rfl
        · exact HPR.out j hj g
        · exact h
      obtain ⟨pb, hpb⟩ : ∃ b, p l[k] = b := ⟨_, rfl⟩
      rw [hpb] at HC HRK HPN
      clear hpb
      generalize l[k] = s at *
      obtain ⟨s0, s1, s2⟩ := s
      simp only at x0 x1 x2
      go_wp2_with fail
      rw [HK.out, Oper.upon_enter]
      refine HC.out.mono ?_
      rintro e w3 ⟨rfl, hb3⟩
      have HB3 := Lib.hid (Below.to HB.out hb3 HB.out.size)
      clear hb3 HC
      cases pb with
      | true =>
        have HR9 := Lib.hid (HRK.out rfl)
        clear HRK HPN
        go_wp2_with fail
        go_ret
        exact ⟨ret_int HR9.out.symm, HB3.out⟩
      | false =>
        have HP9 := Lib.hid (HPN.out rfl)
        clear HRK HPN
        go_wp2_with fail
        go_roundw
        case rel => exact ⟨k + 1, by go_num, by omega, HP9, HB3⟩
        case measure => simp [intOf]; omega
    · have hkI : ¬ (k : Int) < (l.length : Int) := by omega
      have HR9 := Lib.hid (HRN.out (fun j hj => HPR.out j hj (by omega)))
      go_wp2_with fail
      go_ret
      exact ⟨ret_int HR9.out.symm, HB.out⟩

set_option maxRecDepth 100000 in
theorem findDelivery (l : List Dl) (p : Dl → Bool) (K : Nat) (caps : Array Value) (v : Value) (w : World) (hx : IsDls w v l) (hK : CanCall K)
    (hf : ∀ (i : Nat) (h : i < l.length) (W : World), Below w.heap.size w W → Calls Try.prog K (#[.agg (litDl l[i])] ++ caps) W fun e w' => e = .returned (.bool (p l[i])) ∧ Below W.heap.size W w') :
    Calls Try.prog 61 #[v, .func (.func K) #[] caps] w fun e w' => e = .returned (.int .i64 (idxF p l)) ∧ Below w.heap.size w w' := by
  have HI := Lib.hid (idxDelivery l p K caps v w hx hK hf)
  obtain ⟨a, c, rfl, -, -⟩ := hx.open
  clear hx hK hf
  go_enter Try.func61, Try.ntmps61
  go_wp2_with fail
  refine HI.out.mono ?_
  rintro e w3 ⟨rfl, hb3⟩
  have HB3 := Lib.hid hb3
  clear hb3
  go_wp2_with fail
  go_ret
  exact ⟨rfl, HB3.out⟩

set_option maxHeartbeats 2000000 in
set_option maxRecDepth 100000 in
theorem idxReport (l : List Rp) (p : Rp → Bool) (K : Nat) (caps : Array Value) (v : Value) (w : World) (hx : IsRps w v l) (hK : CanCall K)
    (hf : ∀ (i : Nat) (h : i < l.length) (W : World), Below w.heap.size w W → Calls Try.prog K (#[.agg (litRp l[i])] ++ caps) W fun e w' => e = .returned (.bool (p l[i])) ∧ Below W.heap.size W w') :
    Calls Try.prog 94 #[v, .func (.func K) #[] caps] w fun e w' => e = .returned (.int .i64 (idxF p l)) ∧ Below w.heap.size w w' := by
  have HX := Lib.hid hx
  have HFN := Lib.hid hf
  obtain ⟨a, c, rfl, hlm, -⟩ := hx.open
  unfold maxLen at hlm
  obtain ⟨R, hR⟩ : ∃ R, idxF p l = R := ⟨_, rfl⟩
  have HRH : Hid (∀ k (hk : k < l.length), (∀ j (h : j < l.length), j < k → p l[j] = false) → p l[k] = true → R = (k : Int)) := fun k hk h1 h2 => by rw [← hR]; exact idxF_here hk h1 h2
  have HRN : Hid ((∀ j (h : j < l.length), p l[j] = false) → R = -1) := fun h1 => by rw [← hR]; exact idxF_none h1
  rw [hR]
  have HK := Lib.hid hK
  clear hx hf hR hK
  go_enter Try.func94, Try.ntmps94
  go_wp2_with fail
  go_loopw [8] (fun i wr => ∃ k : Nat, i = .int .i64 k ∧ k ≤ l.length ∧ Hid (∀ j (h : j < l.length), j < k → p l[j] = false) ∧ Hid (Below w.heap.size w wr)) (fun i _ => l.length - (intOf i).toNat)
  case atStart => exact ⟨0, rfl, Nat.zero_le _, fun j _ h => absurd h (Nat.not_lt_zero _), Lib.hid (Below.refl _ _)⟩
  case round =>
    obtain ⟨k, rfl, hk, HPR, HB⟩ := hrel
    by_cases hkl : k < l.length
    · have ek : IntKind.i64.wrap ((k : Int) + 1) = ((k + 1 : Nat) : Int) := by rw [IntKind.wrap_i64]; omega
      obtain ⟨b1, o1, q1, e1, -, x0, x1, x2, x3, x4, x5⟩ := (HX.out.below HB.out).at hkl
      simp only [Value.slice.injEq, true_and] at e1
      obtain ⟨rfl, -⟩ := e1
      have hkI : (k : Int) < (l.length : Int) := by omega
      have HC := Lib.hid (HFN.out k hkl wr HB.out)
      have HRK := Lib.hid (HRH.out k hkl HPR.out)
      have HPN : Hid (p l[k] = false → ∀ j (h : j < l.length), j < k + 1 → p l[j] = false) := fun h j hj hjk => by
        rcases Nat.lt_succ_iff_lt_or_eq.1 hjk with g | rfl
        · exact HPR.out j hj g
        · exact h
      obtain ⟨pb, hpb⟩ : ∃ b, p l[k] = b := ⟨_, rfl⟩
      rw [hpb] at HC HRK HPN
      clear hpb
      generalize l[k] = s at *
      obtain ⟨s0, s1, ⟨s2, s3, s4, s5⟩⟩ := s
      simp only at x0 x1 x2 x3 x4 x5
      go_wp2_with fail
      rw [HK.out, Oper.upon_enter]
      refine HC.out.mono ?_
      rintro e w3 ⟨rfl, hb3⟩
      have HB3 := Lib.hid (Below.to HB.out hb3 HB.out.size)
      clear hb3 HC
      cases pb with
      | true =>
        have HR9 := Lib.hid (HRK.out rfl)
        clear HRK HPN
        go_wp2_with fail
        go_ret
        exact ⟨ret_int HR9.out.symm, HB3.out⟩
      | false =>
        have HP9 := Lib.hid (HPN.out rfl)
        clear HRK HPN
        go_wp2_with fail
        go_roundw
        case rel => exact ⟨k + 1, by go_num, by omega, HP9, HB3⟩
        case measure => simp [intOf]; omega
    · have hkI : ¬ (k : Int) < (l.length : Int) := by omega
      have HR9 := Lib.hid (HRN.out (fun j hj => HPR.out j hj (by omega)))
      go_wp2_with fail
      go_ret
      exact ⟨ret_int HR9.out.symm, HB.out⟩

end Go.Proofs.Ytdhiefgbajogcaa

namespace Go.Proofs.Ytdhiefgbajogcaa
open Go.RowKit

def cmC (x y : Int) : Int := if x < y then -1 else if y < x then 1 else 0
theorem nanC (x : Int) (w : World) : Calls Try.prog 68 #[.int .i64 x] w fun e w' => e = .returned (.bool false) ∧ w = w' := by
  go_enter Try.func68, Try.ntmps68
  go_wp2
  go_ret
  simp
theorem compC (x y : Int) (w : World) : Calls Try.prog 45 #[.int .i64 x, .int .i64 y] w fun e w' => e = .returned (.int .i64 (cmC x y)) ∧ w = w' := by
  obtain ⟨r, hr⟩ : ∃ r, cmC x y = r := ⟨_, rfl⟩
  rw [hr]
  by_cases h1 : x < y
  · have hr1 : r = -1 := by rw [← hr]; unfold cmC; rw [if_pos h1]
    subst hr1
    clear hr
    go_enter Try.func45, Try.ntmps45
    go_wp2_with (go_at_call 68; refine (nanC _ _).mono ?_; rintro e w' ⟨rfl, rfl⟩)
    go_ret
    exact ⟨rfl, rfl⟩
  · have h1' : y ≤ x := by omega
    by_cases h2 : y < x
    · have hr1 : r = 1 := by rw [← hr]; unfold cmC; rw [if_neg h1, if_pos h2]
      subst hr1
      clear hr
      go_enter Try.func45, Try.ntmps45
      go_wp2_with (go_at_call 68; refine (nanC _ _).mono ?_; rintro e w' ⟨rfl, rfl⟩)
      go_ret
      exact ⟨rfl, rfl⟩
    · have hr1 : r = 0 := by rw [← hr]; unfold cmC; rw [if_neg h1, if_neg h2]
      subst hr1
      clear hr
      go_enter Try.func45, Try.ntmps45
      go_wp2_with (go_at_call 68; refine (nanC _ _).mono ?_; rintro e w' ⟨rfl, rfl⟩)
      go_ret
      exact ⟨rfl, rfl⟩

def orC (a b : Int) : Int := if a = 0 then b else a
theorem or2C (a b : Int) (g : Nat) (w : World) (h0 : w.cell? ⟨g, 0, none⟩ = some (.int .i64 a)) (h1 : w.cell? ⟨g, 1, none⟩ = some (.int .i64 b)) :
    Calls Try.prog 81 #[.slice (some ⟨g, 0, none⟩) 2 2] w fun e w' => e = .returned (.int .i64 (orC a b)) ∧ w = w' := by
  have H0 := Lib.hid h0
  have H1 := Lib.hid h1
  obtain ⟨R, hR⟩ : ∃ R, orC a b = R := ⟨_, rfl⟩
  have HRA : Hid (a ≠ 0 → R = a) := fun h => by rw [← hR]; exact if_neg h
  have HRB : Hid (a = 0 → R = b) := fun h => by rw [← hR]; exact if_pos h
  rw [hR]
  clear h0 h1 hR
  go_enter Try.func81, Try.ntmps81
  go_wp2_with fail
  go_loopw [8] (fun i wr => ∃ k : Nat, i = .int .i64 k ∧ k ≤ 2 ∧ wr = w ∧ Hid ((1 ≤ k → a = 0) ∧ (2 ≤ k → b = 0))) (fun i _ => 2 - (intOf i).toNat)
  case atStart => exact ⟨0, rfl, by omega, rfl, ⟨fun h => absurd h (by omega), fun h => absurd h (by omega)⟩⟩
  case round =>
    obtain ⟨k, rfl, hk, hw, HZ⟩ := hrel
    subst hw
    rcases (by omega : k = 0 ∨ k = 1 ∨ k = 2) with rfl | rfl | rfl
    · have c0 := H0.out
      by_cases hz : a = 0
      · subst hz
        go_wp2_with fail
        go_roundw
        case rel => exact ⟨1, by first | rfl | trivial, by first | trivial | omega, by first | trivial | rfl, by first | trivial | exact ⟨by first | trivial | exact fun _ => rfl, by first | trivial | exact fun h => absurd h (by omega)⟩⟩
        case measure => simp [intOf]
      · have hz' : (a == 0) = false := by simpa using hz
        have HRF := Lib.hid (HRA.out hz)
        clear hz
        go_wp2_with fail
        go_ret
        exact ⟨ret_int HRF.out.symm, rfl⟩
    · have c1 := H1.out
      by_cases hz : b = 0
      · subst hz
        have HZA := Lib.hid (HZ.out.1 (by omega))
        go_wp2_with fail
        go_roundw
        case rel => exact ⟨2, by first | rfl | trivial, by first | trivial | omega, by first | trivial | rfl, by first | trivial | exact ⟨by first | trivial | exact fun _ => HZA.out, by first | trivial | exact fun _ => rfl⟩⟩
        case measure => simp [intOf]
      · have hz' : (b == 0) = false := by simpa using hz
        have HRF := Lib.hid (HRB.out (HZ.out.1 (by omega)))
        clear hz
        go_wp2_with fail
        go_ret
        exact ⟨ret_int HRF.out.symm, rfl⟩
    · have HRF : Hid (R = 0) := (HRB.out (HZ.out.1 (by omega))).trans (HZ.out.2 (by omega))
      go_wp2_with fail
      go_ret
      exact ⟨ret_int HRF.out.symm, rfl⟩

theorem orC_neg (x y i k : Int) : orC (cmC x y) (cmC i k) < 0 ↔ (x < y ∨ (x = y ∧ i < k)) := by
  unfold orC cmC
  by_cases h1 : x < y
  · simp [h1]
  · by_cases h2 : y < x
    · simp [h1, h2]; omega
    · have h3 : x = y := by omega
      subst h3
      by_cases h4 : i < k
      · simp [h4]
      · by_cases h5 : k < i <;> simp [h4, h5]

theorem three_c {W : World} {B T : Nat} {a0 a1 a2 : Value} (h : W.heap[B]? = some (.cells #[a0, a1, a2] T)) :
    (W.cell? ⟨B, 0, none⟩ = some a0 ∧ W.cell? ⟨B, 1, none⟩ = some a1 ∧ W.cell? ⟨B, 2, none⟩ = some a2) ∧ ∀ i, W.frozen? ⟨B, i, none⟩ = false := by
  refine ⟨⟨?_, ?_, ?_⟩, fun i => ?_⟩
  · simp [World.cell?, h]
  · simp [World.cell?, h]
  · simp [World.cell?, h]
  · simp [World.frozen?, h]
theorem below_grown (W : World) (q : Nat) (os : Array Obj) : Below W.heap.size W (Sort.grow (W.drewN q) os) := by
  have h : ∀ (n : Nat) (l : List Obj) (X : World), X.heap.size = n → Below n X (Sort.grow X l.toArray) := by
    intro n l
    induction l generalizing n with
    | nil => intro X hX; subst hX; rw [Sort.grow_empty]; exact Below.refl _ _
    | cons o l ih =>
      intro X hX
      have e : Sort.grow X (o :: l).toArray = Sort.grow (X.alloc o) l.toArray := by rw [Sort.alloc_eq_grow, Sort.grow_grow]; congr 1; apply Array.ext'; simp
      rw [e]
      have h1 := ih (n + 1) (X.alloc o) (by simp [hX])
      exact ((Below.refl n X).alloc (by omega) o).trans (h1.mono (by omega))
  have h2 := h W.heap.size os.toList (W.drewN q) rfl
  rw [Array.toArray_toList] at h2
  exact (below_drewN (Below.refl _ _) q).trans h2

theorem grow_trans {w w1 w2 : World} (h1 : ∃ q os, w1 = Sort.grow (w.drewN q) os) (h2 : ∃ q os, w2 = Sort.grow (w1.drewN q) os) : ∃ q os, w2 = Sort.grow (w.drewN q) os := by
  obtain ⟨q1, os1, rfl⟩ := h1
  obtain ⟨q2, os2, rfl⟩ := h2
  refine ⟨q1 + q2, os1 ++ os2, ?_⟩
  rw [← World.drewN_drewN, ← Sort.grow_grow]
  rfl

/-! ### deliveries -/
theorem ofDel (x : Dl) (w : World) : Calls Try.prog 57 #[.agg (litDl x)] w fun e w' => e = .returned (.tuple #[.int .i64 x.day, .int .i64 x.att]) ∧ ∃ q os, w' = Sort.grow (w.drewN q) os := by
  obtain ⟨s0, s1, s2⟩ := x
  rw [show litDl ⟨s0, s1, s2⟩ = #[.int .i64 s0, .int .i64 s1, .int .i64 s2] from rfl]
  go_enter Try.func57, Try.ntmps57
  go_wp2_with fail
  go_region
  go_wp2_with fail
  go_ret2
  exact ⟨rfl, 1, _, by rw [Sort.alloc_eq_grow]; rfl⟩

/-- sorted's first closure: is the day behind the last? -/
theorem delDel (x : Dl) (until_ : Int) (F U : Nat) (w : World) (hF : w.cell? ⟨F, 0, none⟩ = some (.func (.func 57) #[] #[])) (hU : w.cell? ⟨U, 0, none⟩ = some (.int .i64 until_)) :
    Calls Try.prog 78 #[.agg (litDl x), .pointer (some ⟨F, 0, none⟩), .pointer (some ⟨U, 0, none⟩)] w fun e w' => e = .returned (.bool (decide (until_ < x.day))) ∧ Below w.heap.size w w' := by
  have HO := Lib.hid (ofDel x)
  obtain ⟨s0, s1, s2⟩ := x
  rw [show litDl ⟨s0, s1, s2⟩ = #[.int .i64 s0, .int .i64 s1, .int .i64 s2] from rfl] at HO ⊢
  simp only at HO ⊢
  obtain ⟨W0, hW0⟩ : ∃ W0, W0 = w.alloc (.cells #[.int .i64 s0, .int .i64 s1, .int .i64 s2] 97) := ⟨_, rfl⟩
  have hlF := World.block_lt_of_cell? _ _ hF
  have hlU := World.block_lt_of_cell? _ _ hU
  have hb0 : Below w.heap.size w W0 := by rw [hW0]; exact (Below.refl _ _).alloc (Nat.le_refl _) _
  have hF0 := (hb0.cell (p := ⟨F, 0, none⟩) hlF).trans hF
  have hU0 := (hb0.cell (p := ⟨U, 0, none⟩) hlU).trans hU
  obtain ⟨⟨k0, k1, k2⟩, -⟩ := three_c (show W0.heap[w.heap.size]? = some (.cells #[.int .i64 s0, .int .i64 s1, .int .i64 s2] 97) by rw [hW0]; exact heap_alloc_new w _)
  have HB0 := Lib.hid hb0
  have HU0 : Hid (∀ X, Below W0.heap.size W0 X → X.cell? ⟨U, 0, none⟩ = some (.int .i64 until_)) := fun X hX => (hX.cell (p := ⟨U, 0, none⟩) (Nat.lt_of_lt_of_le hlU hb0.size)).trans hU0
  rw [hW0] at hF0 k0 k1 k2
  have HW0 := Lib.hid hW0
  clear hF hU hb0 hU0 hlF hlU hW0
  go_enter Try.func78, Try.ntmps78
  go_wp2_with fail
  rw [← HW0.out]
  refine (HO.out W0).mono ?_
  rintro e w' ⟨rfl, q, os, rfl⟩
  have hb1 : Below W0.heap.size W0 (Sort.grow (W0.drewN q) os) := below_grown W0 q os
  have z := HU0.out _ hb1
  have HB1 := Lib.hid (Below.to HB0.out hb1 HB0.out.size)
  clear hb1 hF0 k0 k1 k2
  generalize Sort.grow (W0.drewN q) os = W1 at *
  go_wp2_with fail
  go_ret
  exact ⟨rfl, HB1.out⟩

/-- sorted's second closure: by the days, then by the attempts. -/
theorem cmpDel (x y : Dl) (F : Nat) (w : World) (hF : w.cell? ⟨F, 0, none⟩ = some (.func (.func 57) #[] #[])) :
    Calls Try.prog 80 #[.agg (litDl x), .agg (litDl y), .pointer (some ⟨F, 0, none⟩)] w fun e w' => e = .returned (.int .i64 (orC (cmC x.day y.day) (cmC x.att y.att))) ∧ ∃ q os, w' = Sort.grow (w.drewN q) os := by
  have HX := Lib.hid (ofDel x)
  have HY := Lib.hid (ofDel y)
  obtain ⟨s0, s1, s2⟩ := x
  obtain ⟨t0, t1, t2⟩ := y
  rw [show litDl ⟨s0, s1, s2⟩ = #[.int .i64 s0, .int .i64 s1, .int .i64 s2] from rfl] at HX ⊢
  rw [show litDl ⟨t0, t1, t2⟩ = #[.int .i64 t0, .int .i64 t1, .int .i64 t2] from rfl] at HY ⊢
  simp only at HX HY ⊢
  obtain ⟨W0, hW0⟩ : ∃ W0, W0 = (w.alloc (.cells #[.int .i64 s0, .int .i64 s1, .int .i64 s2] 97)).alloc (.cells #[.int .i64 t0, .int .i64 t1, .int .i64 t2] 97) := ⟨_, rfl⟩
  obtain ⟨P, hP⟩ : ∃ P, P = w.heap.size := ⟨_, rfl⟩
  have hlF := World.block_lt_of_cell? _ _ hF
  have hb0 : Below w.heap.size w W0 := by rw [hW0]; exact ((Below.refl _ _).alloc (Nat.le_refl _) _).alloc (by simp) _
  have hF0 := (hb0.cell (p := ⟨F, 0, none⟩) hlF).trans hF
  have hx0 : W0.heap[P]? = some (.cells #[.int .i64 s0, .int .i64 s1, .int .i64 s2] 97) := by rw [hW0, hP]; exact (Below.heap_alloc _ _ _ (by simp)).trans (heap_alloc_new w _)
  have hy0 : W0.heap[P + 1]? = some (.cells #[.int .i64 t0, .int .i64 t1, .int .i64 t2] 97) := by
    have h := heap_alloc_new (w.alloc (.cells #[.int .i64 s0, .int .i64 s1, .int .i64 s2] 97)) (.cells #[.int .i64 t0, .int .i64 t1, .int .i64 t2] 97)
    rw [World.size_alloc] at h
    rw [hW0, hP]
    exact h
  have hsz : P + 1 < W0.heap.size := by rw [hW0, hP]; simp
  obtain ⟨⟨k0, k1, k2⟩, -⟩ := three_c hx0
  have hG0 : ∃ q os, W0 = Sort.grow (w.drewN q) os := ⟨0, _, by rw [hW0, Sort.alloc_eq_grow, Sort.alloc_eq_grow, Sort.grow_grow]; rfl⟩
  have HG0 := Lib.hid hG0
  have HF0 : Hid (∀ X, Below W0.heap.size W0 X → X.cell? ⟨F, 0, none⟩ = some (.func (.func 57) #[] #[])) := fun X hX => (hX.cell (p := ⟨F, 0, none⟩) (Nat.lt_of_lt_of_le hlF hb0.size)).trans hF0
  have HY0 : Hid (∀ X, Below W0.heap.size W0 X → X.heap[P + 1]? = some (.cells #[.int .i64 t0, .int .i64 t1, .int .i64 t2] 97)) := fun X hX => (hX.block _ hsz).trans hy0
  rw [hW0] at hF0 k0 k1 k2
  rw [hP] at k0 k1 k2
  have HW0 := Lib.hid hW0
  have HP := Lib.hid hP
  clear hF hb0 hlF hW0 hP hx0 hy0 hsz hG0
  obtain ⟨c1, hc1⟩ : ∃ c, cmC s2 t2 = c := ⟨_, rfl⟩
  obtain ⟨c2, hc2⟩ : ∃ c, cmC s0 t0 = c := ⟨_, rfl⟩
  have HC1 : Hid (∀ W, Calls Try.prog 45 #[.int .i64 s2, .int .i64 t2] W fun e w' => e = .returned (.int .i64 c1) ∧ W = w') := by rw [← hc1]; exact fun W => compC s2 t2 W
  have HC2 : Hid (∀ W, Calls Try.prog 45 #[.int .i64 s0, .int .i64 t0] W fun e w' => e = .returned (.int .i64 c2) ∧ W = w') := by rw [← hc2]; exact fun W => compC s0 t0 W
  rw [hc1, hc2]
  clear hc1 hc2
  go_enter Try.func80, Try.ntmps80
  go_wp2_with fail
  rw [← HW0.out, ← HP.out]
  refine (HX.out W0).mono ?_
  rintro e w1 ⟨rfl, q1, os1, hw1⟩
  have hb1 : Below W0.heap.size W0 w1 := by rw [hw1]; exact below_grown W0 q1 os1
  have HG1 : Hid (∃ q os, w1 = Sort.grow (w.drewN q) os) := grow_trans HG0.out ⟨q1, os1, hw1⟩
  have f1 := HF0.out _ hb1
  obtain ⟨⟨m0, m1, m2⟩, -⟩ := three_c (HY0.out _ hb1)
  clear hF0 k0 k1 k2 hw1 hb1
  go_wp2_with fail
  refine (HY.out w1).mono ?_
  rintro e w2 ⟨rfl, q2, os2, hw2⟩
  have HG2 : Hid (∃ q os, w2 = Sort.grow (w.drewN q) os) := grow_trans HG1.out ⟨q2, os2, hw2⟩
  clear f1 m0 m1 m2 hw2
  go_wp2_with fail
  refine (HC1.out _).mono ?_
  rintro e w3 ⟨rfl, rfl⟩
  go_wp2_with fail
  refine (HC2.out _).mono ?_
  rintro e w4 ⟨rfl, rfl⟩
  have HOR := Lib.hid (or2C c1 c2 w2.heap.size (w2.alloc (.cells #[.int .i64 c1, .int .i64 c2] 3)) ((cells_alloc w2 #[.int .i64 c1, .int .i64 c2] 3 0).trans rfl) ((cells_alloc w2 #[.int .i64 c1, .int .i64 c2] 3 1).trans rfl))
  go_wp2_with fail
  refine HOR.out.mono ?_
  rintro e w5 ⟨rfl, rfl⟩
  go_wp2_with fail
  go_ret
  refine ⟨rfl, grow_trans HG2.out ⟨0, _, by rw [Sort.alloc_eq_grow]; rfl⟩⟩

end Go.Proofs.Ytdhiefgbajogcaa

namespace Go.Proofs.Ytdhiefgbajogcaa
open Go.RowKit

def layDel_ren : Go.Shelf.Ren := ⟨fun | 20 => 111 | n => n, fun | 22 => 68 | 24 => 97 | 25 => 116 | 0 => 0 | 3 => 3 | 4 => 4 | n => n, fun | n => n⟩
theorem layDel : Go.Proofs.SlLaysF0.n20 Try.prog layDel_ren := {
  mixed := by kernel_rfl,
  f20 := ⟨Try.f111.name, by decide, Try.func111.trans (congrArg some (by kernel_rfl))⟩,
  t0 := Try.underlying0,
  a0 := Try.isAgg0,
  z0 := Try.sizeOf0,
  v0 := Try.zeroValue0,
  t3 := Try.underlying3,
  a3 := Try.isAgg3,
  z3 := Try.sizeOf3,
  v3 := Try.zeroValue3,
  t4 := Try.underlying4,
  a4 := Try.isAgg4,
  z4 := Try.sizeOf4,
  v4 := Try.zeroValue4,
  t22 := Try.underlying68,
  a22 := Try.isAgg68,
  z22 := Try.sizeOf68,
  v22 := Try.zeroValue68,
  t25 := Try.underlying116,
  a25 := Try.isAgg116,
  z25 := Try.sizeOf116,
  v25 := Try.zeroValue116 }

theorem grown_more {w w' : World} {r : Option Nat} (h : w.grownBy w' none) : w.grownBy w' r := ⟨h.os, h.tape, h.output, h.size, fun k hk _ => h.block k hk (by simp)⟩
theorem grown_behind {w w1 w2 : World} {r : Option Nat} (h : Below w.heap.size w w1) (h2 : w1.grownBy w2 r) : w.grownBy w2 r :=
  ⟨h2.os.trans h.os, h2.tape.trans h.tape, h2.output.trans h.output, Nat.le_trans h.size h2.size, fun k hk hr => (h2.block k (Nat.lt_of_lt_of_le hk h.size) hr).trans (h.block k hk)⟩

theorem ltDel (x y : Dl) : ltOf (fun x y : Dl => orC (cmC x.day y.day) (cmC x.att y.att)) x y = decide (x.day < y.day ∨ (x.day = y.day ∧ x.att < y.att)) := by
  unfold ltOf
  rw [decide_eq_decide]
  exact orC_neg _ _ _ _
theorem swoDel : Sort.SWO (ltOf fun x y : Dl => orC (cmC x.day y.day) (cmC x.att y.att)) where
  irrefl x := by rw [ltDel]; simp
  trans x y z h1 h2 := by rw [ltDel] at *; simp at *; omega
  ntrans x y z h1 h2 := by rw [ltDel] at *; simp at *; omega

theorem ins0Del (a : Option Addr) (cap K : Nat) (caps : Array Value) (w : World) :
    Calls Try.prog 111 #[.slice a 0 cap, .int .i64 0, .int .i64 0, .func (.func K) #[] caps] w fun e w' => e = .returned (.tuple #[]) ∧ w = w' := by
  go_enter Try.func111, Try.ntmps111
  go_wp2_with fail
  refine wp_loop_rounds 1 ?_
  rw [rounds_succ]
  go_wp2_with fail
  go_end0
  exact ⟨rfl, rfl⟩

theorem insDel (F B E : Nat) (v : Value) (l : List Dl) (w : World) (hown : w.ownsRow B E 3 v l.length (enC dlE l)) (hl : l.length ≤ 19) (hF : w.cell? ⟨F, 0, none⟩ = some (.func (.func 57) #[] #[])) (hFv : v.ownBlock ≠ some F) :
    Calls Try.prog 111 #[v, .int .i64 0, .int .i64 l.length, .func (.func 80) #[] #[.pointer (some ⟨F, 0, none⟩)]] w fun e w' => e = .returned (.tuple #[]) ∧ ∃ l', l'.Perm l ∧ w'.ownsRow B E 3 v l'.length (enC dlE l') ∧ w.grownBy w' v.ownBlock := by
  rcases Nat.eq_zero_or_pos l.length with h0 | hpos
  · have hl0 : l = [] := List.eq_nil_of_length_eq_zero h0
    subst hl0
    obtain ⟨a, cap, rfl, -, -⟩ := owns_slice hown
    refine (ins0Del a cap _ _ w).mono ?_
    rintro e w' ⟨rfl, rfl⟩
    exact ⟨rfl, [], List.Perm.refl _, hown, grown_more (grown_of_below (Below.refl _ _))⟩
  · obtain ⟨g, cap, rfl, hBg, hgl, -⟩ := owns_some hown hpos
    have hFg : F ≠ g := fun e => hFv (by rw [e]; rfl)
    have hlF := World.block_lt_of_cell? _ _ hF
    have h := insSort_any (ρ := layDel_ren) layDel dlE_len (by decide) dlE_one Try.isAgg97 Try.sizeOf97 (fun x y : Dl => orC (cmC x.day y.day) (cmC x.att y.att)) swoDel 80 #[.pointer (some ⟨F, 0, none⟩)]
      (enters_of Try.func80 (by kernel_rfl) rfl) B E g cap l w hown (by omega) (fun m os dk hd x y => cmpDel x y F _ ((sortWorldK_cell w g m dk os (p := ⟨F, 0, none⟩) hFg hlF).trans hF))
    change Calls Try.prog 111 _ _ _ at h
    refine Calls.mono h ?_
    rintro e w' ⟨rfl, l', hp, ho, hg⟩
    have hle : l'.length = l.length := hp.length_eq
    refine ⟨rfl, l', hp, ?_, hg⟩
    rw [hle]
    exact ho

set_option maxRecDepth 100000 in
theorem stableDel (F B E : Nat) (v : Value) (l : List Dl) (w : World) (hown : w.ownsRow B E 3 v l.length (enC dlE l)) (hl : l.length ≤ 19) (hF : w.cell? ⟨F, 0, none⟩ = some (.func (.func 57) #[] #[])) (hFv : v.ownBlock ≠ some F) :
    Calls Try.prog 93 #[v, .int .i64 l.length, .func (.func 80) #[] #[.pointer (some ⟨F, 0, none⟩)]] w fun e w' => e = .returned (.tuple #[]) ∧ ∃ l', l'.Perm l ∧ w'.ownsRow B E 3 v l'.length (enC dlE l') ∧ w.grownBy w' v.ownBlock := by
  have HI := Lib.hid (insDel F B E v l w hown hl hF hFv)
  obtain ⟨a, cap, rfl, -, -⟩ := owns_slice hown
  have hlI : ¬ (20 : Int) ≤ (l.length : Int) := by omega
  have hlJ : ¬ (20 : Int) < (l.length : Int) := by omega
  clear hown hF hFv
  go_enter Try.func93, Try.ntmps93
  go_wp2_with fail
  refine wp_loop_rounds 1 ?_
  rw [rounds_succ]
  go_wp2_with fail
  refine HI.out.mono ?_
  rintro e w1 ⟨rfl, l', hp, ho, hb⟩
  have HR : Hid (∃ l', l'.Perm l ∧ w1.ownsRow B E 3 (.slice a l.length cap) l'.length (enC dlE l') ∧ w.grownBy w1 (Value.slice a l.length cap).ownBlock) := ⟨l', hp, ho, hb⟩
  clear hp ho hb HI
  go_wp2_with fail
  refine wp_loop_rounds 1 ?_
  rw [rounds_succ]
  go_wp2_with fail
  go_end0
  exact ⟨rfl, HR.out⟩

set_option maxRecDepth 100000 in
theorem sortDel (F B E : Nat) (v : Value) (l : List Dl) (w : World) (hown : w.ownsRow B E 3 v l.length (enC dlE l)) (hl : l.length ≤ 19) (hF : w.cell? ⟨F, 0, none⟩ = some (.func (.func 57) #[] #[])) (hFv : v.ownBlock ≠ some F) :
    Calls Try.prog 79 #[v, .func (.func 80) #[] #[.pointer (some ⟨F, 0, none⟩)]] w fun e w' => e = .returned (.tuple #[]) ∧ ∃ l', l'.Perm l ∧ w'.ownsRow B E 3 v l'.length (enC dlE l') ∧ w.grownBy w' v.ownBlock := by
  have HI := Lib.hid (stableDel F B E v l w hown hl hF hFv)
  obtain ⟨a, cap, rfl, -, -⟩ := owns_slice hown
  clear hown hF hFv
  go_enter Try.func79, Try.ntmps79
  go_wp2_with fail
  refine HI.out.mono ?_
  rintro e w1 ⟨rfl, l', hp, ho, hb⟩
  have HR : Hid (∃ l', l'.Perm l ∧ w1.ownsRow B E 3 (.slice a l.length cap) l'.length (enC dlE l') ∧ w.grownBy w1 (Value.slice a l.length cap).ownBlock) := ⟨l', hp, ho, hb⟩
  clear hp ho hb HI
  go_wp2_with fail
  go_end0
  exact ⟨rfl, HR.out⟩

theorem idxF_all {α : Type} {p : α → Bool} {l : List α} (h : ∀ x ∈ l, p x = false) : idxF p l = -1 := idxF_none (fun _ hj => h _ (List.getElem_mem hj))

set_option maxRecDepth 100000 in
theorem dropDel (l : List Dl) (p : Dl → Bool) (K : Nat) (caps : Array Value) (v : Value) (w : World) (hx : IsDls w v l) (hK : CanCall K)
    (hf : ∀ (i : Nat) (h : i < l.length) (W : World), Below w.heap.size w W → Calls Try.prog K (#[.agg (litDl l[i])] ++ caps) W fun e w' => e = .returned (.bool (p l[i])) ∧ Below W.heap.size W w') (hn : ∀ x ∈ l, p x = false) :
    Calls Try.prog 77 #[v, .func (.func K) #[] caps] w fun e w' => e = .returned v ∧ Below w.heap.size w w' := by
  have HI := Lib.hid (idxDelivery l p K caps v w hx hK hf)
  rw [idxF_all hn] at HI
  obtain ⟨a, cap, rfl, -, -⟩ := hx.open
  clear hx hK hf hn
  go_enter Try.func77, Try.ntmps77
  go_wp2_with fail
  refine HI.out.mono ?_
  rintro e w1 ⟨rfl, hb⟩
  have HB := Lib.hid hb
  clear hb HI
  go_wp2_with fail
  go_ret
  exact ⟨rfl, HB.out⟩

set_option maxRecDepth 100000 in
theorem canDelDel : CanCall 78 := fun _ _ => rfl

set_option maxHeartbeats 1000000 in
set_option maxRecDepth 100000 in
theorem sortedDel (B E : Nat) (v : Value) (l : List Dl) (u : Int) (w : World) (hown : w.ownsRow B E 3 v l.length (enC dlE l)) (hl : l.length ≤ 19) (hu : ∀ x ∈ l, x.day ≤ u) :
    Calls Try.prog 56 #[v, .int .i64 u, .func (.func 57) #[] #[]] w fun e w' => ∃ v', e = .returned v' ∧ ∃ l', l'.Perm l ∧ w'.ownsRow B E 3 v' l'.length (enC dlE l') ∧ w.grownBy w' v.ownBlock := by
  obtain ⟨W0, hW0⟩ : ∃ W0, W0 = (w.alloc (.cells #[.int .i64 u] 3)).alloc (.cells #[.func (.func 57) #[] #[]] 99) := ⟨_, rfl⟩
  obtain ⟨U, hU⟩ : ∃ U, U = w.heap.size := ⟨_, rfl⟩
  have hb0 : Below w.heap.size w W0 := by rw [hW0]; exact ((Below.refl _ _).alloc (Nat.le_refl _) _).alloc (by simp) _
  have cU : W0.cell? ⟨U, 0, none⟩ = some (.int .i64 u) := by
    rw [hW0, hU]
    exact (((Below.refl (w.alloc (.cells #[.int .i64 u] 3)).heap.size _).alloc (Nat.le_refl _) _).cell (p := ⟨w.heap.size, 0, none⟩) (by simp)).trans ((cells_alloc w #[.int .i64 u] 3 0).trans rfl)
  have cF : W0.cell? ⟨U + 1, 0, none⟩ = some (.func (.func 57) #[] #[]) := by
    have h := cells_alloc (w.alloc (.cells #[.int .i64 u] 3)) #[.func (.func 57) #[] #[]] 99 0
    rw [World.size_alloc] at h
    rw [hW0, hU]
    exact h.trans rfl
  have hFlt : U + 1 < W0.heap.size := by rw [hW0, hU]; simp
  have ho0 := owns_below hown hb0
  have hne : v.ownBlock ≠ some (U + 1) := fun e => by have := (hown.lt _ e).2; omega
  have HD := Lib.hid (dropDel l (fun x => decide (u < x.day)) 78 #[.pointer (some ⟨U + 1, 0, none⟩), .pointer (some ⟨U, 0, none⟩)] v W0 (IsDls.of_owns ho0) canDelDel
    (fun i hi W hW => delDel l[i] u (U + 1) U W ((hW.cell (p := ⟨U + 1, 0, none⟩) hFlt).trans cF) ((hW.cell (p := ⟨U, 0, none⟩) (by show U < _; omega)).trans cU)) (fun x hx => by have := hu x hx; simp; omega))
  have HS : Hid (∀ W, Below W0.heap.size W0 W → Calls Try.prog 79 #[v, .func (.func 80) #[] #[.pointer (some ⟨U + 1, 0, none⟩)]] W fun e w' => e = .returned (.tuple #[]) ∧ ∃ l', l'.Perm l ∧ w'.ownsRow B E 3 v l'.length (enC dlE l') ∧ W.grownBy w' v.ownBlock) := fun W hW =>
    sortDel (U + 1) B E v l W (owns_below ho0 hW) hl ((hW.cell (p := ⟨U + 1, 0, none⟩) hFlt).trans cF) hne
  have HB0 : Hid (∀ W, Below W0.heap.size W0 W → Below w.heap.size w W) := fun W hW => Below.to hb0 hW hb0.size
  have HW0 := Lib.hid hW0
  have HU := Lib.hid hU
  obtain ⟨a, cap, rfl, -, -⟩ := owns_slice hown
  clear hown hu hW0 hU hb0 cU cF hFlt ho0 hne
  go_enter Try.func56, Try.ntmps56
  go_wp2_with fail
  rw [← HW0.out, ← HU.out]
  refine HD.out.mono ?_
  rintro e w1 ⟨rfl, hb⟩
  have HS1 := Lib.hid (HS.out w1 hb)
  have HB1 := Lib.hid (HB0.out w1 hb)
  clear hb HD HS HB0
  go_wp2_with fail
  refine HS1.out.mono ?_
  rintro e w2 ⟨rfl, l', hp, ho, hb⟩
  have HR : Hid (∃ l', l'.Perm l ∧ w2.ownsRow B E 3 (.slice a l.length cap) l'.length (enC dlE l') ∧ w.grownBy w2 (Value.slice a l.length cap).ownBlock) := ⟨l', hp, ho, grown_behind HB1.out hb⟩
  clear hp ho hb HS1
  go_wp2_with fail
  go_ret
  exact ⟨_, rfl, HR.out⟩

end Go.Proofs.Ytdhiefgbajogcaa

namespace Go.Proofs.Ytdhiefgbajogcaa
open Go.RowKit

theorem six_c {W : World} {B T : Nat} {a0 a1 a2 a3 a4 a5 : Value} (h : W.heap[B]? = some (.cells #[a0, a1, a2, a3, a4, a5] T)) :
    (W.cell? ⟨B, 0, none⟩ = some a0 ∧ W.cell? ⟨B, 1, none⟩ = some a1 ∧ W.cell? ⟨B, 2, none⟩ = some a2 ∧ W.cell? ⟨B, 3, none⟩ = some a3 ∧ W.cell? ⟨B, 4, none⟩ = some a4 ∧ W.cell? ⟨B, 5, none⟩ = some a5) ∧ ∀ i, W.frozen? ⟨B, i, none⟩ = false := by
  refine ⟨⟨?_, ?_, ?_, ?_, ?_, ?_⟩, fun i => ?_⟩
  · simp [World.cell?, h]
  · simp [World.cell?, h]
  · simp [World.cell?, h]
  · simp [World.cell?, h]
  · simp [World.cell?, h]
  · simp [World.cell?, h]
  · simp [World.frozen?, h]

theorem ofRep (x : Rp) (w : World) : Calls Try.prog 59 #[.agg (litRp x)] w fun e w' => e = .returned (.tuple #[.int .i64 x.day, .int .i64 x.att]) ∧ ∃ q os, w' = Sort.grow (w.drewN q) os := by
  obtain ⟨s0, s1, ⟨s2, s3, s4, s5⟩⟩ := x
  rw [show litRp ⟨s0, s1, ⟨s2, s3, s4, s5⟩⟩ = #[.int .i64 s0, .int .i64 s1, .int .i64 s2, .int .i64 s3, .int .i64 s4, .int .i64 s5] from rfl]
  go_enter Try.func59, Try.ntmps59
  go_wp2_with fail
  go_region
  go_wp2_with fail
  go_ret2
  exact ⟨rfl, 1, _, by rw [Sort.alloc_eq_grow]; rfl⟩

/-- sorted's first closure: is the day behind the last? -/
theorem delRep (x : Rp) (until_ : Int) (F U : Nat) (w : World) (hF : w.cell? ⟨F, 0, none⟩ = some (.func (.func 59) #[] #[])) (hU : w.cell? ⟨U, 0, none⟩ = some (.int .i64 until_)) :
    Calls Try.prog 83 #[.agg (litRp x), .pointer (some ⟨F, 0, none⟩), .pointer (some ⟨U, 0, none⟩)] w fun e w' => e = .returned (.bool (decide (until_ < x.day))) ∧ Below w.heap.size w w' := by
  have HO := Lib.hid (ofRep x)
  obtain ⟨s0, s1, ⟨s2, s3, s4, s5⟩⟩ := x
  rw [show litRp ⟨s0, s1, ⟨s2, s3, s4, s5⟩⟩ = #[.int .i64 s0, .int .i64 s1, .int .i64 s2, .int .i64 s3, .int .i64 s4, .int .i64 s5] from rfl] at HO ⊢
  simp only at HO ⊢
  obtain ⟨W0, hW0⟩ : ∃ W0, W0 = w.alloc (.cells #[.int .i64 s0, .int .i64 s1, .int .i64 s2, .int .i64 s3, .int .i64 s4, .int .i64 s5] 73) := ⟨_, rfl⟩
  have hlF := World.block_lt_of_cell? _ _ hF
  have hlU := World.block_lt_of_cell? _ _ hU
  have hb0 : Below w.heap.size w W0 := by rw [hW0]; exact (Below.refl _ _).alloc (Nat.le_refl _) _
  have hF0 := (hb0.cell (p := ⟨F, 0, none⟩) hlF).trans hF
  have hU0 := (hb0.cell (p := ⟨U, 0, none⟩) hlU).trans hU
  obtain ⟨⟨k0, k1, k2, k3, k4, k5⟩, -⟩ := six_c (show W0.heap[w.heap.size]? = some (.cells #[.int .i64 s0, .int .i64 s1, .int .i64 s2, .int .i64 s3, .int .i64 s4, .int .i64 s5] 73) by rw [hW0]; exact heap_alloc_new w _)
  have HB0 := Lib.hid hb0
  have HU0 : Hid (∀ X, Below W0.heap.size W0 X → X.cell? ⟨U, 0, none⟩ = some (.int .i64 until_)) := fun X hX => (hX.cell (p := ⟨U, 0, none⟩) (Nat.lt_of_lt_of_le hlU hb0.size)).trans hU0
  rw [hW0] at hF0 k0 k1 k2 k3 k4 k5
  have HW0 := Lib.hid hW0
  clear hF hU hb0 hU0 hlF hlU hW0
  go_enter Try.func83, Try.ntmps83
  go_wp2_with fail
  rw [← HW0.out]
  refine (HO.out W0).mono ?_
  rintro e w' ⟨rfl, q, os, rfl⟩
  have hb1 : Below W0.heap.size W0 (Sort.grow (W0.drewN q) os) := below_grown W0 q os
  have z := HU0.out _ hb1
  have HB1 := Lib.hid (Below.to HB0.out hb1 HB0.out.size)
  clear hb1 hF0 k0 k1 k2 k3 k4 k5
  generalize Sort.grow (W0.drewN q) os = W1 at *
  go_wp2_with fail
  go_ret
  exact ⟨rfl, HB1.out⟩

/-- sorted's second closure: by the days, then by the attempts. -/
theorem cmpRep (x y : Rp) (F : Nat) (w : World) (hF : w.cell? ⟨F, 0, none⟩ = some (.func (.func 59) #[] #[])) :
    Calls Try.prog 85 #[.agg (litRp x), .agg (litRp y), .pointer (some ⟨F, 0, none⟩)] w fun e w' => e = .returned (.int .i64 (orC (cmC x.day y.day) (cmC x.att y.att))) ∧ ∃ q os, w' = Sort.grow (w.drewN q) os := by
  have HX := Lib.hid (ofRep x)
  have HY := Lib.hid (ofRep y)
  obtain ⟨s0, s1, ⟨s2, s3, s4, s5⟩⟩ := x
  obtain ⟨t0, t1, ⟨t2, t3, t4, t5⟩⟩ := y
  rw [show litRp ⟨s0, s1, ⟨s2, s3, s4, s5⟩⟩ = #[.int .i64 s0, .int .i64 s1, .int .i64 s2, .int .i64 s3, .int .i64 s4, .int .i64 s5] from rfl] at HX ⊢
  rw [show litRp ⟨t0, t1, ⟨t2, t3, t4, t5⟩⟩ = #[.int .i64 t0, .int .i64 t1, .int .i64 t2, .int .i64 t3, .int .i64 t4, .int .i64 t5] from rfl] at HY ⊢
  simp only at HX HY ⊢
  obtain ⟨W0, hW0⟩ : ∃ W0, W0 = (w.alloc (.cells #[.int .i64 s0, .int .i64 s1, .int .i64 s2, .int .i64 s3, .int .i64 s4, .int .i64 s5] 73)).alloc (.cells #[.int .i64 t0, .int .i64 t1, .int .i64 t2, .int .i64 t3, .int .i64 t4, .int .i64 t5] 73) := ⟨_, rfl⟩
  obtain ⟨P, hP⟩ : ∃ P, P = w.heap.size := ⟨_, rfl⟩
  have hlF := World.block_lt_of_cell? _ _ hF
  have hb0 : Below w.heap.size w W0 := by rw [hW0]; exact ((Below.refl _ _).alloc (Nat.le_refl _) _).alloc (by simp) _
  have hF0 := (hb0.cell (p := ⟨F, 0, none⟩) hlF).trans hF
  have hx0 : W0.heap[P]? = some (.cells #[.int .i64 s0, .int .i64 s1, .int .i64 s2, .int .i64 s3, .int .i64 s4, .int .i64 s5] 73) := by rw [hW0, hP]; exact (Below.heap_alloc _ _ _ (by simp)).trans (heap_alloc_new w _)
  have hy0 : W0.heap[P + 1]? = some (.cells #[.int .i64 t0, .int .i64 t1, .int .i64 t2, .int .i64 t3, .int .i64 t4, .int .i64 t5] 73) := by
    have h := heap_alloc_new (w.alloc (.cells #[.int .i64 s0, .int .i64 s1, .int .i64 s2, .int .i64 s3, .int .i64 s4, .int .i64 s5] 73)) (.cells #[.int .i64 t0, .int .i64 t1, .int .i64 t2, .int .i64 t3, .int .i64 t4, .int .i64 t5] 73)
    rw [World.size_alloc] at h
    rw [hW0, hP]
    exact h
  have hsz : P + 1 < W0.heap.size := by rw [hW0, hP]; simp
  obtain ⟨⟨k0, k1, k2, k3, k4, k5⟩, -⟩ := six_c hx0
  have hG0 : ∃ q os, W0 = Sort.grow (w.drewN q) os := ⟨0, _, by rw [hW0, Sort.alloc_eq_grow, Sort.alloc_eq_grow, Sort.grow_grow]; rfl⟩
  have HG0 := Lib.hid hG0
  have HF0 : Hid (∀ X, Below W0.heap.size W0 X → X.cell? ⟨F, 0, none⟩ = some (.func (.func 59) #[] #[])) := fun X hX => (hX.cell (p := ⟨F, 0, none⟩) (Nat.lt_of_lt_of_le hlF hb0.size)).trans hF0
  have HY0 : Hid (∀ X, Below W0.heap.size W0 X → X.heap[P + 1]? = some (.cells #[.int .i64 t0, .int .i64 t1, .int .i64 t2, .int .i64 t3, .int .i64 t4, .int .i64 t5] 73)) := fun X hX => (hX.block _ hsz).trans hy0
  rw [hW0] at hF0 k0 k1 k2 k3 k4 k5
  rw [hP] at k0 k1 k2 k3 k4 k5
  have HW0 := Lib.hid hW0
  have HP := Lib.hid hP
  clear hF hb0 hlF hW0 hP hx0 hy0 hsz hG0
  obtain ⟨c1, hc1⟩ : ∃ c, cmC s1 t1 = c := ⟨_, rfl⟩
  obtain ⟨c2, hc2⟩ : ∃ c, cmC s0 t0 = c := ⟨_, rfl⟩
  have HC1 : Hid (∀ W, Calls Try.prog 45 #[.int .i64 s1, .int .i64 t1] W fun e w' => e = .returned (.int .i64 c1) ∧ W = w') := by rw [← hc1]; exact fun W => compC s1 t1 W
  have HC2 : Hid (∀ W, Calls Try.prog 45 #[.int .i64 s0, .int .i64 t0] W fun e w' => e = .returned (.int .i64 c2) ∧ W = w') := by rw [← hc2]; exact fun W => compC s0 t0 W
  rw [hc1, hc2]
  clear hc1 hc2
  go_enter Try.func85, Try.ntmps85
  go_wp2_with fail
  rw [← HW0.out, ← HP.out]
  refine (HX.out W0).mono ?_
  rintro e w1 ⟨rfl, q1, os1, hw1⟩
  have hb1 : Below W0.heap.size W0 w1 := by rw [hw1]; exact below_grown W0 q1 os1
  have HG1 : Hid (∃ q os, w1 = Sort.grow (w.drewN q) os) := grow_trans HG0.out ⟨q1, os1, hw1⟩
  have f1 := HF0.out _ hb1
  obtain ⟨⟨m0, m1, m2, m3, m4, m5⟩, -⟩ := six_c (HY0.out _ hb1)
  clear hF0 k0 k1 k2 k3 k4 k5 hw1 hb1
  go_wp2_with fail
  refine (HY.out w1).mono ?_
  rintro e w2 ⟨rfl, q2, os2, hw2⟩
  have HG2 : Hid (∃ q os, w2 = Sort.grow (w.drewN q) os) := grow_trans HG1.out ⟨q2, os2, hw2⟩
  clear f1 m0 m1 m2 m3 m4 m5 hw2
  go_wp2_with fail
  refine (HC1.out _).mono ?_
  rintro e w3 ⟨rfl, rfl⟩
  go_wp2_with fail
  refine (HC2.out _).mono ?_
  rintro e w4 ⟨rfl, rfl⟩
  have HOR := Lib.hid (or2C c1 c2 w2.heap.size (w2.alloc (.cells #[.int .i64 c1, .int .i64 c2] 3)) ((cells_alloc w2 #[.int .i64 c1, .int .i64 c2] 3 0).trans rfl) ((cells_alloc w2 #[.int .i64 c1, .int .i64 c2] 3 1).trans rfl))
  go_wp2_with fail
  refine HOR.out.mono ?_
  rintro e w5 ⟨rfl, rfl⟩
  go_wp2_with fail
  go_ret
  refine ⟨rfl, grow_trans HG2.out ⟨0, _, by rw [Sort.alloc_eq_grow]; rfl⟩⟩

end Go.Proofs.Ytdhiefgbajogcaa

namespace Go.Proofs.Ytdhiefgbajogcaa
open Go.RowKit

def layRep_ren : Go.Shelf.Ren := ⟨fun | 20 => 113 | n => n, fun | 22 => 69 | 24 => 73 | 25 => 120 | 0 => 0 | 3 => 3 | 4 => 4 | n => n, fun | n => n⟩
theorem layRep : Go.Proofs.SlLaysF0.n20 Try.prog layRep_ren := {
  mixed := by kernel_rfl,
  f20 := ⟨Try.f113.name, by decide, Try.func113.trans (congrArg some (by kernel_rfl))⟩,
  t0 := Try.underlying0,
  a0 := Try.isAgg0,
  z0 := Try.sizeOf0,
  v0 := Try.zeroValue0,
  t3 := Try.underlying3,
  a3 := Try.isAgg3,
  z3 := Try.sizeOf3,
  v3 := Try.zeroValue3,
  t4 := Try.underlying4,
  a4 := Try.isAgg4,
  z4 := Try.sizeOf4,
  v4 := Try.zeroValue4,
  t22 := Try.underlying69,
  a22 := Try.isAgg69,
  z22 := Try.sizeOf69,
  v22 := Try.zeroValue69,
  t25 := Try.underlying120,
  a25 := Try.isAgg120,
  z25 := Try.sizeOf120,
  v25 := Try.zeroValue120 }

theorem ltRep (x y : Rp) : ltOf (fun x y : Rp => orC (cmC x.day y.day) (cmC x.att y.att)) x y = decide (x.day < y.day ∨ (x.day = y.day ∧ x.att < y.att)) := by
  unfold ltOf
  rw [decide_eq_decide]
  exact orC_neg _ _ _ _
theorem swoRep : Sort.SWO (ltOf fun x y : Rp => orC (cmC x.day y.day) (cmC x.att y.att)) where
  irrefl x := by rw [ltRep]; simp
  trans x y z h1 h2 := by rw [ltRep] at *; simp at *; omega
  ntrans x y z h1 h2 := by rw [ltRep] at *; simp at *; omega

theorem ins0Rep (a : Option Addr) (cap K : Nat) (caps : Array Value) (w : World) :
    Calls Try.prog 113 #[.slice a 0 cap, .int .i64 0, .int .i64 0, .func (.func K) #[] caps] w fun e w' => e = .returned (.tuple #[]) ∧ w = w' := by
  go_enter Try.func113, Try.ntmps113
  go_wp2_with fail
  refine wp_loop_rounds 1 ?_
  rw [rounds_succ]
  go_wp2_with fail
  go_end0
  exact ⟨rfl, rfl⟩

theorem insRep (F B E : Nat) (v : Value) (l : List Rp) (w : World) (hown : w.ownsRow B E 6 v l.length (enC rpE l)) (hl : l.length ≤ 19) (hF : w.cell? ⟨F, 0, none⟩ = some (.func (.func 59) #[] #[])) (hFv : v.ownBlock ≠ some F) :
    Calls Try.prog 113 #[v, .int .i64 0, .int .i64 l.length, .func (.func 85) #[] #[.pointer (some ⟨F, 0, none⟩)]] w fun e w' => e = .returned (.tuple #[]) ∧ ∃ l', l'.Perm l ∧ w'.ownsRow B E 6 v l'.length (enC rpE l') ∧ w.grownBy w' v.ownBlock := by
  rcases Nat.eq_zero_or_pos l.length with h0 | hpos
  · have hl0 : l = [] := List.eq_nil_of_length_eq_zero h0
    subst hl0
    obtain ⟨a, cap, rfl, -, -⟩ := owns_slice hown
    refine (ins0Rep a cap _ _ w).mono ?_
    rintro e w' ⟨rfl, rfl⟩
    exact ⟨rfl, [], List.Perm.refl _, hown, grown_more (grown_of_below (Below.refl _ _))⟩
  · obtain ⟨g, cap, rfl, hBg, hgl, -⟩ := owns_some hown hpos
    have hFg : F ≠ g := fun e => hFv (by rw [e]; rfl)
    have hlF := World.block_lt_of_cell? _ _ hF
    have h := insSort_any (ρ := layRep_ren) layRep rpE_len (by decide) rpE_one Try.isAgg73 Try.sizeOf73 (fun x y : Rp => orC (cmC x.day y.day) (cmC x.att y.att)) swoRep 85 #[.pointer (some ⟨F, 0, none⟩)]
      (enters_of Try.func85 (by kernel_rfl) rfl) B E g cap l w hown (by omega) (fun m os dk hd x y => cmpRep x y F _ ((sortWorldK_cell w g m dk os (p := ⟨F, 0, none⟩) hFg hlF).trans hF))
    change Calls Try.prog 113 _ _ _ at h
    refine Calls.mono h ?_
    rintro e w' ⟨rfl, l', hp, ho, hg⟩
    have hle : l'.length = l.length := hp.length_eq
    refine ⟨rfl, l', hp, ?_, hg⟩
    rw [hle]
    exact ho

set_option maxRecDepth 100000 in
theorem stableRep (F B E : Nat) (v : Value) (l : List Rp) (w : World) (hown : w.ownsRow B E 6 v l.length (enC rpE l)) (hl : l.length ≤ 19) (hF : w.cell? ⟨F, 0, none⟩ = some (.func (.func 59) #[] #[])) (hFv : v.ownBlock ≠ some F) :
    Calls Try.prog 95 #[v, .int .i64 l.length, .func (.func 85) #[] #[.pointer (some ⟨F, 0, none⟩)]] w fun e w' => e = .returned (.tuple #[]) ∧ ∃ l', l'.Perm l ∧ w'.ownsRow B E 6 v l'.length (enC rpE l') ∧ w.grownBy w' v.ownBlock := by
  have HI := Lib.hid (insRep F B E v l w hown hl hF hFv)
  obtain ⟨a, cap, rfl, -, -⟩ := owns_slice hown
  have hlI : ¬ (20 : Int) ≤ (l.length : Int) := by omega
  have hlJ : ¬ (20 : Int) < (l.length : Int) := by omega
  clear hown hF hFv
  go_enter Try.func95, Try.ntmps95
  go_wp2_with fail
  refine wp_loop_rounds 1 ?_
  rw [rounds_succ]
  go_wp2_with fail
  refine HI.out.mono ?_
  rintro e w1 ⟨rfl, l', hp, ho, hb⟩
  have HR : Hid (∃ l', l'.Perm l ∧ w1.ownsRow B E 6 (.slice a l.length cap) l'.length (enC rpE l') ∧ w.grownBy w1 (Value.slice a l.length cap).ownBlock) := ⟨l', hp, ho, hb⟩
  clear hp ho hb HI
  go_wp2_with fail
  refine wp_loop_rounds 1 ?_
  rw [rounds_succ]
  go_wp2_with fail
  go_end0
  exact ⟨rfl, HR.out⟩

set_option maxRecDepth 100000 in
theorem sortRep (F B E : Nat) (v : Value) (l : List Rp) (w : World) (hown : w.ownsRow B E 6 v l.length (enC rpE l)) (hl : l.length ≤ 19) (hF : w.cell? ⟨F, 0, none⟩ = some (.func (.func 59) #[] #[])) (hFv : v.ownBlock ≠ some F) :
    Calls Try.prog 84 #[v, .func (.func 85) #[] #[.pointer (some ⟨F, 0, none⟩)]] w fun e w' => e = .returned (.tuple #[]) ∧ ∃ l', l'.Perm l ∧ w'.ownsRow B E 6 v l'.length (enC rpE l') ∧ w.grownBy w' v.ownBlock := by
  have HI := Lib.hid (stableRep F B E v l w hown hl hF hFv)
  obtain ⟨a, cap, rfl, -, -⟩ := owns_slice hown
  clear hown hF hFv
  go_enter Try.func84, Try.ntmps84
  go_wp2_with fail
  refine HI.out.mono ?_
  rintro e w1 ⟨rfl, l', hp, ho, hb⟩
  have HR : Hid (∃ l', l'.Perm l ∧ w1.ownsRow B E 6 (.slice a l.length cap) l'.length (enC rpE l') ∧ w.grownBy w1 (Value.slice a l.length cap).ownBlock) := ⟨l', hp, ho, hb⟩
  clear hp ho hb HI
  go_wp2_with fail
  go_end0
  exact ⟨rfl, HR.out⟩

set_option maxRecDepth 100000 in
theorem dropRep (l : List Rp) (p : Rp → Bool) (K : Nat) (caps : Array Value) (v : Value) (w : World) (hx : IsRps w v l) (hK : CanCall K)
    (hf : ∀ (i : Nat) (h : i < l.length) (W : World), Below w.heap.size w W → Calls Try.prog K (#[.agg (litRp l[i])] ++ caps) W fun e w' => e = .returned (.bool (p l[i])) ∧ Below W.heap.size W w') (hn : ∀ x ∈ l, p x = false) :
    Calls Try.prog 82 #[v, .func (.func K) #[] caps] w fun e w' => e = .returned v ∧ Below w.heap.size w w' := by
  have HI := Lib.hid (idxReport l p K caps v w hx hK hf)
  rw [idxF_all hn] at HI
  obtain ⟨a, cap, rfl, -, -⟩ := hx.open
  clear hx hK hf hn
  go_enter Try.func82, Try.ntmps82
  go_wp2_with fail
  refine HI.out.mono ?_
  rintro e w1 ⟨rfl, hb⟩
  have HB := Lib.hid hb
  clear hb HI
  go_wp2_with fail
  go_ret
  exact ⟨rfl, HB.out⟩

set_option maxRecDepth 100000 in
theorem canDelRep : CanCall 83 := fun _ _ => rfl

set_option maxHeartbeats 1000000 in
set_option maxRecDepth 100000 in
theorem sortedRep (B E : Nat) (v : Value) (l : List Rp) (u : Int) (w : World) (hown : w.ownsRow B E 6 v l.length (enC rpE l)) (hl : l.length ≤ 19) (hu : ∀ x ∈ l, x.day ≤ u) :
    Calls Try.prog 58 #[v, .int .i64 u, .func (.func 59) #[] #[]] w fun e w' => ∃ v', e = .returned v' ∧ ∃ l', l'.Perm l ∧ w'.ownsRow B E 6 v' l'.length (enC rpE l') ∧ w.grownBy w' v.ownBlock := by
  obtain ⟨W0, hW0⟩ : ∃ W0, W0 = (w.alloc (.cells #[.int .i64 u] 3)).alloc (.cells #[.func (.func 59) #[] #[]] 101) := ⟨_, rfl⟩
  obtain ⟨U, hU⟩ : ∃ U, U = w.heap.size := ⟨_, rfl⟩
  have hb0 : Below w.heap.size w W0 := by rw [hW0]; exact ((Below.refl _ _).alloc (Nat.le_refl _) _).alloc (by simp) _
  have cU : W0.cell? ⟨U, 0, none⟩ = some (.int .i64 u) := by
    rw [hW0, hU]
    exact (((Below.refl (w.alloc (.cells #[.int .i64 u] 3)).heap.size _).alloc (Nat.le_refl _) _).cell (p := ⟨w.heap.size, 0, none⟩) (by simp)).trans ((cells_alloc w #[.int .i64 u] 3 0).trans rfl)
  have cF : W0.cell? ⟨U + 1, 0, none⟩ = some (.func (.func 59) #[] #[]) := by
    have h := cells_alloc (w.alloc (.cells #[.int .i64 u] 3)) #[.func (.func 59) #[] #[]] 101 0
    rw [World.size_alloc] at h
    rw [hW0, hU]
    exact h.trans rfl
  have hFlt : U + 1 < W0.heap.size := by rw [hW0, hU]; simp
  have ho0 := owns_below hown hb0
  have hne : v.ownBlock ≠ some (U + 1) := fun e => by have := (hown.lt _ e).2; omega
  have HD := Lib.hid (dropRep l (fun x => decide (u < x.day)) 83 #[.pointer (some ⟨U + 1, 0, none⟩), .pointer (some ⟨U, 0, none⟩)] v W0 (IsRps.of_owns ho0) canDelRep
    (fun i hi W hW => delRep l[i] u (U + 1) U W ((hW.cell (p := ⟨U + 1, 0, none⟩) hFlt).trans cF) ((hW.cell (p := ⟨U, 0, none⟩) (by show U < _; omega)).trans cU)) (fun x hx => by have := hu x hx; simp; omega))
  have HS : Hid (∀ W, Below W0.heap.size W0 W → Calls Try.prog 84 #[v, .func (.func 85) #[] #[.pointer (some ⟨U + 1, 0, none⟩)]] W fun e w' => e = .returned (.tuple #[]) ∧ ∃ l', l'.Perm l ∧ w'.ownsRow B E 6 v l'.length (enC rpE l') ∧ W.grownBy w' v.ownBlock) := fun W hW =>
    sortRep (U + 1) B E v l W (owns_below ho0 hW) hl ((hW.cell (p := ⟨U + 1, 0, none⟩) hFlt).trans cF) hne
  have HB0 : Hid (∀ W, Below W0.heap.size W0 W → Below w.heap.size w W) := fun W hW => Below.to hb0 hW hb0.size
  have HW0 := Lib.hid hW0
  have HU := Lib.hid hU
  obtain ⟨a, cap, rfl, -, -⟩ := owns_slice hown
  clear hown hu hW0 hU hb0 cU cF hFlt ho0 hne
  go_enter Try.func58, Try.ntmps58
  go_wp2_with fail
  rw [← HW0.out, ← HU.out]
  refine HD.out.mono ?_
  rintro e w1 ⟨rfl, hb⟩
  have HS1 := Lib.hid (HS.out w1 hb)
  have HB1 := Lib.hid (HB0.out w1 hb)
  clear hb HD HS HB0
  go_wp2_with fail
  refine HS1.out.mono ?_
  rintro e w2 ⟨rfl, l', hp, ho, hb⟩
  have HR : Hid (∃ l', l'.Perm l ∧ w2.ownsRow B E 6 (.slice a l.length cap) l'.length (enC rpE l') ∧ w.grownBy w2 (Value.slice a l.length cap).ownBlock) := ⟨l', hp, ho, grown_behind HB1.out hb⟩
  clear hp ho hb HS1
  go_wp2_with fail
  go_ret
  exact ⟨_, rfl, HR.out⟩

end Go.Proofs.Ytdhiefgbajogcaa

namespace Go.Proofs.Ytdhiefgbajogcaa
open Go.RowKit

set_option maxHeartbeats 2000000 in
set_option maxRecDepth 100000 in
theorem idxWay (l : List Ret) (p : Ret → Bool) (K : Nat) (caps : Array Value) (v : Value) (w : World) (hx : IsRts w v l) (hK : CanCall K)
    (hf : ∀ (i : Nat) (h : i < l.length) (W : World), Below w.heap.size w W → Calls Try.prog K (#[.agg (litRt l[i])] ++ caps) W fun e w' => e = .returned (.bool (p l[i])) ∧ Below W.heap.size W w') :
    Calls Try.prog 76 #[v, .func (.func K) #[] caps] w fun e w' => e = .returned (.int .i64 (idxF p l)) ∧ Below w.heap.size w w' := by
  have HX := Lib.hid hx
  have HFN := Lib.hid hf
  obtain ⟨a, c, rfl, hlm, -⟩ := hx.open
  unfold maxLen at hlm
  obtain ⟨R, hR⟩ : ∃ R, idxF p l = R := ⟨_, rfl⟩
  have HRH : Hid (∀ k (hk : k < l.length), (∀ j (h : j < l.length), j < k → p l[j] = false) → p l[k] = true → R = (k : Int)) := fun k hk h1 h2 => by rw [← hR]; exact idxF_here hk h1 h2
  have HRN : Hid ((∀ j (h : j < l.length), p l[j] = false) → R = -1) := fun h1 => by rw [← hR]; exact idxF_none h1
  rw [hR]
  have HK := Lib.hid hK
  clear hx hf hR hK
  go_enter Try.func76, Try.ntmps76
  go_wp2_with fail
  go_loopw [8] (fun i wr => ∃ k : Nat, i = .int .i64 k ∧ k ≤ l.length ∧ Hid (∀ j (h : j < l.length), j < k → p l[j] = false) ∧ Hid (Below w.heap.size w wr)) (fun i _ => l.length - (intOf i).toNat)
  case atStart => exact ⟨0, rfl, Nat.zero_le _, fun j _ h => absurd h (Nat.not_lt_zero _), Lib.hid (Below.refl _ _)⟩
  case round =>
    obtain ⟨k, rfl, hk, HPR, HB⟩ := hrel
    by_cases hkl : k < l.length
    · have ek : IntKind.i64.wrap ((k : Int) + 1) = ((k + 1 : Nat) : Int) := by rw [IntKind.wrap_i64]; omega
      obtain ⟨b1, o1, q1, e1, -, c0, c1', c2, c3⟩ := (HX.out.below HB.out).at hkl
      simp only [Value.slice.injEq, true_and] at e1
      obtain ⟨rfl, -⟩ := e1
      have hkI : (k : Int) < (l.length : Int) := by omega
      have HC := Lib.hid (HFN.out k hkl wr HB.out)
      have HRK := Lib.hid (HRH.out k hkl HPR.out)
      have HPN : Hid (p l[k] = false → ∀ j (h : j < l.length), j < k + 1 → p l[j] = false) := fun h j hj hjk => by
        rcases Nat.lt_succ_iff_lt_or_eq.1 hjk with g | rfl
        · exact HPR.out j hj g
        · exact h
      obtain ⟨pb, hpb⟩ : ∃ b, p l[k] = b := ⟨_, rfl⟩
      rw [hpb] at HC HRK HPN
      clear hpb
      generalize l[k] = s at *
      obtain ⟨s0, s1, s2, s3⟩ := s
      simp only at c0 c1' c2 c3
      go_wp2_with fail
      rw [HK.out, Oper.upon_enter]
      refine HC.out.mono ?_
      rintro e w3 ⟨rfl, hb3⟩
      have HB3 := Lib.hid (Below.to HB.out hb3 HB.out.size)
      clear hb3 HC
      cases pb with
      | true =>
        have HR9 := Lib.hid (HRK.out rfl)
        clear HRK HPN
        go_wp2_with fail
        go_ret
        exact ⟨ret_int HR9.out.symm, HB3.out⟩
      | false =>
        have HP9 := Lib.hid (HPN.out rfl)
        clear HRK HPN
        go_wp2_with fail
        go_roundw
        case rel => exact ⟨k + 1, by go_num, by omega, HP9, HB3⟩
        case measure => simp [intOf]; omega
    · have hkI : ¬ (k : Int) < (l.length : Int) := by omega
      have HR9 := Lib.hid (HRN.out (fun j hj => HPR.out j hj (by omega)))
      go_wp2_with fail
      go_ret
      exact ⟨ret_int HR9.out.symm, HB.out⟩

set_option maxRecDepth 100000 in
theorem findWay (l : List Ret) (p : Ret → Bool) (K : Nat) (caps : Array Value) (v : Value) (w : World) (hx : IsRts w v l) (hK : CanCall K)
    (hf : ∀ (i : Nat) (h : i < l.length) (W : World), Below w.heap.size w W → Calls Try.prog K (#[.agg (litRt l[i])] ++ caps) W fun e w' => e = .returned (.bool (p l[i])) ∧ Below W.heap.size W w') :
    Calls Try.prog 53 #[v, .func (.func K) #[] caps] w fun e w' => e = .returned (.int .i64 (idxF p l)) ∧ Below w.heap.size w w' := by
  have HI := Lib.hid (idxWay l p K caps v w hx hK hf)
  obtain ⟨a, c, rfl, -, -⟩ := hx.open
  clear hx hK hf
  go_enter Try.func53, Try.ntmps53
  go_wp2_with fail
  refine HI.out.mono ?_
  rintro e w3 ⟨rfl, hb3⟩
  have HB3 := Lib.hid hb3
  clear hb3
  go_wp2_with fail
  go_ret
  exact ⟨rfl, HB3.out⟩

end Go.Proofs.Ytdhiefgbajogcaa
