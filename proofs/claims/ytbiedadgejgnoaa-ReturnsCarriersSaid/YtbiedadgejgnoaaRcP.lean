/-
  ReturnsCarriers in plain words: the papers, their ways, what is returned.
-/
import Derived.Test.YtbiedadgejgnoaaCrB
import Derived.Test.YtbiedadgejgnoaaRtZ
import Derived.Test.YtbiedadgejgnoaaRtC
namespace Go.Proofs.Ytbiedadgejgnoaa
open Go.RowKit

section
variable (l : List Int)
def numF (i : Nat) : Int := around (l.getD i 0) 1000000
def rcPap (i : Nat) : Ret := ⟨(i : Int), numF l i % 4, 0, 739616 + numF l i / 4 % 10⟩
def rcWay (i : Nat) : Ret := ⟨(i : Int), numF l i / 40 % 7, numF l i / 280 % 9, (numF l i % 4 + 1) % 4⟩
def rcHas (i : Nat) : Bool := decide (numF l i / 40 % 7 < 6)
def rcPaps (k : Nat) : List Ret := (List.range k).map (rcPap l)
def rcWays (k : Nat) : List Ret := ((List.range k).filter (rcHas l)).map (rcWay l)
end
theorem numF_in (l : List Int) (i : Nat) : 0 ≤ numF l i ∧ numF l i < 1000000 := ⟨around_lo _ _ (by omega), around_hi _ _ (by omega)⟩
theorem rcPaps_len (l : List Int) (k : Nat) : (rcPaps l k).length = k := by simp [rcPaps]
theorem rcPaps_S (l : List Int) (k : Nat) : rcPaps l (k + 1) = rcPaps l k ++ [rcPap l k] := by unfold rcPaps; rw [List.range_succ, List.map_append]; rfl
theorem rcWays_S (l : List Int) (k : Nat) : rcWays l (k + 1) = rcWays l k ++ (if rcHas l k = true then [rcWay l k] else []) := by
  unfold rcWays
  rw [List.range_succ, List.filter_append, List.map_append]
  congr 1
  by_cases h : rcHas l k = true
  · simp [h]
  · simp [h]
theorem rcWays_len (l : List Int) (k : Nat) : (rcWays l k).length ≤ k := by
  unfold rcWays
  rw [List.length_map]
  exact Nat.le_trans (List.length_filter_le _ _) (by simp)
theorem rc_papers (l : List Int) {n : Nat} (hn : n ≤ 6) : PapersOk (rcPaps l n) := by
  refine ⟨fun i hi => by simp [rcPaps, rcPap], by rw [rcPaps_len]; omega, fun x hx => ?_⟩
  obtain ⟨i, hi, rfl⟩ := List.mem_map.1 hx
  have := numF_in l i
  unfold rcPap
  simp only
  omega
theorem rc_ways (l : List Int) (n : Nat) : WaysOk (rcPaps l n) (rcWays l n) := by
  refine ⟨fun i j hi hj hij => ?_, fun x hx => ?_, fun x hx => ?_⟩
  · have hp : ((List.range n).filter (rcHas l)).Pairwise (· < ·) := List.Pairwise.filter _ List.pairwise_lt_range
    have hi' : i < ((List.range n).filter (rcHas l)).length := by simpa [rcWays] using hi
    have hj' : j < ((List.range n).filter (rcHas l)).length := by simpa [rcWays] using hj
    have h := List.pairwise_iff_getElem.1 hp i j hi' hj' hij
    have e1 : (rcWays l n)[i] = rcWay l (((List.range n).filter (rcHas l))[i]) := by simp [rcWays]
    have e2 : (rcWays l n)[j] = rcWay l (((List.range n).filter (rcHas l))[j]) := by simp [rcWays]
    rw [e1, e2]
    show ((((List.range n).filter (rcHas l))[i] : Nat) : Int) < ((((List.range n).filter (rcHas l))[j] : Nat) : Int)
    omega
  · obtain ⟨i, hi, rfl⟩ := List.mem_map.1 hx
    have := List.mem_range.1 (List.mem_filter.1 hi).1
    rw [rcPaps_len]
    unfold rcWay
    simp only
    omega
  · obtain ⟨i, hi, rfl⟩ := List.mem_map.1 hx
    have h1 := of_decide_eq_true (List.mem_filter.1 hi).2
    have := numF_in l i
    unfold rcWay
    simp only
    omega

/-! ### what comes out of Run -/
theorem wayF_mem {ways : List Ret} {a : Int} : wayF ways a = ⟨0, 0, 1, 0⟩ ∨ wayF ways a ∈ ways := by
  rcases wayF_of (ways := ways) (a := a) with ⟨-, h⟩ | ⟨j, hj, -, h⟩
  · exact .inl h
  · right; rw [h]; exact List.getElem_mem hj
theorem runD_mem {ways papers : List Ret} {d : Dl} (h : d ∈ runD ways papers) : ∃ p ∈ papers, d.att = p.car ∧ d.day = p.un + (wayF ways p.car).fr ∧ d.day ≤ 3652058 := by
  obtain ⟨p, hp, hd⟩ := List.mem_flatMap.1 h
  refine ⟨p, hp, ?_⟩
  unfold runD1 at hd
  split at hd
  · cases hd
  · rename_i hl
    split at hd
    · cases hd
    · rw [List.mem_singleton] at hd
      subst hd
      refine ⟨rfl, rfl, ?_⟩
      have h2 : lostB (p.un + (wayF ways p.car).fr) (wayF ways p.car).kind = false := by simpa using hl
      unfold lostB at h2
      simp at h2
      show p.un + (wayF ways p.car).fr ≤ _
      omega
theorem runR_mem {ways papers : List Ret} {r : Rp} (h : r ∈ runR ways papers) : ∃ p ∈ papers, r.att = p.car ∧ r.ret = ⟨p.fr, 1, p.un + (wayF ways p.car).fr, p.un + (wayF ways p.car).fr⟩ ∧ p.un + (wayF ways p.car).fr ≤ 3652058 := by
  obtain ⟨p, hp, hd⟩ := List.mem_flatMap.1 h
  refine ⟨p, hp, ?_⟩
  unfold runR1 at hd
  split at hd
  · cases hd
  · rename_i hl
    obtain ⟨i, -, rfl⟩ := List.mem_map.1 hd
    refine ⟨rfl, rfl, ?_⟩
    have h2 : lostB (p.un + (wayF ways p.car).fr) (wayF ways p.car).kind = false := by simpa using hl
    unfold lostB at h2
    simp at h2
    omega

/-- The returns of one attempt. -/
def mineF (R : List Rp) (k : Nat) (i : Int) : List Ret := ((R.take k).filter (fun r => r.att == i)).map (·.ret)
theorem mineF_S {R : List Rp} {k : Nat} (hk : k < R.length) (i : Int) : mineF R (k + 1) i = mineF R k i ++ (if R[k].att = i then [R[k].ret] else []) := by
  unfold mineF
  rw [List.take_succ_eq_append_getElem hk, List.filter_append, List.map_append]
  congr 1
  by_cases h : R[k].att = i
  · simp [h]
  · simp [h]
theorem mineF_len (R : List Rp) (k : Nat) (i : Int) : (mineF R k i).length ≤ k := by
  unfold mineF
  rw [List.length_map]
  exact Nat.le_trans (List.length_filter_le _ _) (by rw [List.length_take]; omega)
theorem mineF_in {R : List Rp} {k : Nat} {i : Int} {x : Ret} (h : x ∈ mineF R k i) : ∃ r ∈ R, r.att = i ∧ r.ret = x := by
  obtain ⟨r, hr, rfl⟩ := List.mem_map.1 h
  obtain ⟨h1, h2⟩ := List.mem_filter.1 hr
  exact ⟨r, List.mem_of_mem_take h1, by simpa using h2, rfl⟩

/-- All returns are of the first carrier and valid. -/
theorem rc_rets {l : List Int} {n : Nat} {R : List Rp} {u : Int} (hp : R.Perm ((runR (rcWays l n) (rcPaps l n)).filter (fun x => !decide (u < x.day)))) {k : Nat} {i : Int} : ∀ x ∈ mineF R k i, x.car = 0 ∧ RetOk 1 x := fun x hx => by
  obtain ⟨r, hr, -, rfl⟩ := mineF_in hx
  obtain ⟨p, hpp, -, e, hle⟩ := runR_mem (List.mem_filter.1 (hp.mem_iff.1 hr)).1
  obtain ⟨j, hj, rfl⟩ := List.mem_map.1 hpp
  rw [e]
  have h1 := numF_in l j
  have hfr : 0 ≤ (wayF (rcWays l n) (rcPap l j).car).fr := by
    rcases wayF_mem (ways := rcWays l n) (a := (rcPap l j).car) with h | h
    · rw [h]; decide
    · exact ((rc_ways l n).num _ h).2.1.1
  have hun : 739616 ≤ (rcPap l j).un := by show 739616 ≤ 739616 + numF l j / 4 % 10; omega
  exact ⟨rfl, ⟨⟨Int.le_refl _, by show (0 : Int) < _; decide⟩, .inl ⟨rfl, by show 0 ≤ (rcPap l j).un + _; omega, Int.le_refl _, hle⟩⟩⟩
/-- The true day lies behind the day on which the paper was sent. -/
theorem rc_truth {l : List Int} {n : Nat} {D : List Dl} {u : Int} (hp : D.Perm ((runD (rcWays l n) (rcPaps l n)).filter (fun x => !decide (u < x.day)))) {i : Nat} (hi : i < n) {par : Int} {day : Int} (h : srvF D (i : Int) par = (day, true)) : (rcPap l i).un ≤ day ∧ day ≤ 3652058 := by
  unfold srvF at h
  cases hf : D.find? (fun d : Dl => d.att == (i : Int) && d.par == par) with
  | none => rw [hf] at h; cases h
  | some d =>
    rw [hf] at h
    have h1 := List.find?_some hf
    simp only [Bool.and_eq_true, beq_iff_eq] at h1
    obtain ⟨p, hpp, e1, e2, e3⟩ := runD_mem (List.mem_filter.1 (hp.mem_iff.1 (List.mem_of_find?_eq_some hf))).1
    obtain ⟨j, hj, rfl⟩ := List.mem_map.1 hpp
    have hji : j = i := by
      have : ((j : Nat) : Int) = (i : Int) := by rw [← h1.1, e1]; rfl
      omega
    subst hji
    have hday : d.day = day := by injection h
    have hfr : 0 ≤ (wayF (rcWays l n) (rcPap l j).car).fr := by
      rcases wayF_mem (ways := rcWays l n) (a := (rcPap l j).car) with h | h
      · rw [h]; decide
      · exact ((rc_ways l n).num _ h).2.1.1
    omega

/-- At most as many wrong returns as are tolerated: it is allowed. -/
theorem rc_allowed {mine : List Ret} {tol sent truth : Int} {out : List (Int × Int)} {nv : Bool} (h : Alw mine [(0, tol)] sent out nv) (hc : ∀ x ∈ mine, x.car = 0) (hw : (mine.countP (fun r => wrongB r truth) : Int) ≤ tol) (ht : truth = -1 ∨ (sent ≤ truth ∧ truth ≤ 3652058)) :
    (truth = -1 → nv = true) ∧ (truth ≠ -1 → Cov out truth) := by
  have hn : nW mine 0 truth = mine.countP (fun r => wrongB r truth) := by
    unfold nW
    refine List.countP_congr (fun r hr => ?_)
    rw [hc r hr]
    simp
  have h0 : excF mine [(0, tol)] truth = 0 := excF_zero (fun c hcl => by
    have hc0 : c = 0 := by simp at hcl; omega
    subst hc0
    show (nW mine ((0 : Nat) : Int) truth : Int) ≤ tol
    rw [show ((0 : Nat) : Int) = 0 from rfl, hn]
    exact hw)
  refine ⟨fun e => h.nev.2 (fun p _ => ?_), fun e => (h.cov truth).2 ⟨by omega, by omega, fun p _ => ?_⟩⟩
  · subst e; rw [h0]; exact excF_pos _ _ _
  · rw [h0]; exact excF_pos _ _ _

end Go.Proofs.Ytbiedadgejgnoaa
