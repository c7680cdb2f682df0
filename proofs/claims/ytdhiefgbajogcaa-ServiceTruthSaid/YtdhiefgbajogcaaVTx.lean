/-
  ServiceTruth in plain words: attempts whose papers are all delivered and returned, with carriers that tolerate nothing.
  The carriers and the attempts of a case, as rows of the call's own. (Printed by wip/tools/gen_cao.py.)
-/
import Derived.Test.YtdhiefgbajogcaaVO1
import Derived.Test.YtdhiefgbajogcaaCrY
import Derived.Test.YtdhiefgbajogcaaRtZ
import Derived.Test.YtdhiefgbajogcaaSvM
namespace Go.Proofs.Ytdhiefgbajogcaa
open Go.RowKit

section
variable (ats : List At) (days : List Int)
def atG (i : Nat) : At := ats.getD i ⟨0, 0, 0, 0, []⟩
def dayF (i : Nat) : Int := (atG ats i).sent + (1 + pickF days i 20)
def papF (i : Nat) : Ret := ⟨(i : Int), (atG ats i).par, (atG ats i).car, (atG ats i).sent⟩
def wyF (i : Nat) : Ret := ⟨(i : Int), 0, 1 + pickF days i 20, 0⟩
def dlF (i : Nat) : Dl := ⟨(i : Int), (atG ats i).par, dayF ats days i⟩
def rtF (i : Nat) : Ret := ⟨(atG ats i).car, 1, dayF ats days i, dayF ats days i⟩
def rpF (i : Nat) : Rp := ⟨(i : Int), dayF ats days i + 1, rtF ats days i⟩
def at0F (i : Nat) : At := ⟨(atG ats i).ent, (atG ats i).par, (atG ats i).car, (atG ats i).sent, []⟩
def at1F (i : Nat) : At := ⟨(atG ats i).ent, (atG ats i).par, (atG ats i).car, (atG ats i).sent, [rtF ats days i]⟩
def papL (k : Nat) : List Ret := (List.range k).map (papF ats)
def wyL (k : Nat) : List Ret := (List.range k).map (wyF days)
end

theorem map_range_S {α : Type} (f : Nat → α) (k : Nat) : (List.range (k + 1)).map f = (List.range k).map f ++ [f k] := by rw [List.range_succ, List.map_append]; rfl
theorem papL_len (ats : List At) (k : Nat) : (papL ats k).length = k := by simp [papL]
theorem wyL_len (days : List Int) (k : Nat) : (wyL days k).length = k := by simp [wyL]

structure TrOk (n : Nat) (ats : List At) : Prop where
  gen : GenAts n ats
  four : n ≤ 4
  len : ats.length ≤ 8
theorem TrOk.at {n : Nat} {ats : List At} (h : TrOk n ats) {i : Nat} (hi : i < ats.length) : GenAt n (atG ats i) := by
  have e : atG ats i = ats[i] := by unfold atG; rw [List.getD_eq_getElem?_getD, List.getElem?_eq_getElem hi]; rfl
  rw [e]
  exact h.gen _ (List.getElem_mem hi)
theorem dayF_in {n : Nat} {ats : List At} {days : List Int} (h : TrOk n ats) {i : Nat} (hi : i < ats.length) : 739617 ≤ dayF ats days i ∧ dayF ats days i ≤ 739665 ∧ (atG ats i).sent ≤ dayF ats days i := by
  have h1 := (h.at hi).2.2.2.1
  have h2 := pickF_in days i 20 (by omega)
  unfold dayF
  omega
theorem pap_ok {n : Nat} {ats : List At} (h : TrOk n ats) : PapersOk (papL ats ats.length) := by
  refine ⟨fun i hi => by simp [papL, papF], by rw [papL_len]; have := h.len; omega, fun x hx => ?_⟩
  obtain ⟨i, hi, rfl⟩ := List.mem_map.1 hx
  rw [List.mem_range] at hi
  obtain ⟨g1, g2, g3, g4, -⟩ := h.at hi
  have := h.four
  unfold papF
  simp only
  omega
theorem way_ok (ats : List At) (days : List Int) : WaysOk (papL ats ats.length) (wyL days ats.length) := by
  refine ⟨fun i j hi hj hij => by simp [wyL, wyF]; omega, fun x hx => ?_, fun x hx => ?_⟩
  · obtain ⟨i, hi, rfl⟩ := List.mem_map.1 hx
    rw [List.mem_range] at hi
    rw [papL_len]
    unfold wyF
    simp only
    omega
  · obtain ⟨i, hi, rfl⟩ := List.mem_map.1 hx
    have := pickF_in days i 20 (by omega)
    unfold wyF
    simp only
    omega
theorem wayF_at (days : List Int) {n i : Nat} (hi : i < n) : wayF (wyL days n) (i : Int) = wyF days i := by
  have hl : i < (wyL days n).length := by rw [wyL_len]; exact hi
  have h1 : idxF (fun x : Ret => x.car == (i : Int)) (wyL days n) = (i : Int) := idxF_here hl (fun j hj hji => by simp [wyL, wyF]; omega) (by simp [wyL, wyF])
  rcases wayF_of (ways := wyL days n) (a := (i : Int)) with ⟨h2, -⟩ | ⟨j, hj, h2, h3⟩
  · omega
  · have e : j = i := by omega
    subst e
    rw [h3]
    simp [wyL]
theorem run_D {n : Nat} {ats : List At} (days : List Int) (h : TrOk n ats) : ∀ k, k ≤ ats.length → runD (wyL days ats.length) (papL ats k) = (List.range k).map (dlF ats days)
  | 0, _ => rfl
  | k + 1, hk => by
    have ih := run_D days h k (by omega)
    have hd := dayF_in (days := days) h (i := k) (by omega)
    have e : papL ats (k + 1) = papL ats k ++ [papF ats k] := map_range_S _ k
    have e1 : runD1 (papF ats k) (wyF days k) = [dlF ats days k] := by
      unfold runD1 lostB
      have h5 : ¬ 3652058 < (papF ats k).un + (wyF days k).fr := by show ¬ _ < dayF ats days k; omega
      rw [if_neg (by rw [decide_eq_false h5]; simp [wyF]), if_neg (by simp [wyF]), if_neg (by simp [wyF])]
      rfl
    unfold runD at ih ⊢
    rw [e, List.flatMap_append, ih, map_range_S]
    simp only [List.flatMap_cons, List.flatMap_nil, List.append_nil]
    rw [show (papF ats k).car = (k : Int) from rfl, wayF_at days (by omega), e1]
theorem run_R {n : Nat} {ats : List At} (days : List Int) (h : TrOk n ats) : ∀ k, k ≤ ats.length → runR (wyL days ats.length) (papL ats k) = (List.range k).map (rpF ats days)
  | 0, _ => rfl
  | k + 1, hk => by
    have ih := run_R days h k (by omega)
    have hd := dayF_in (days := days) h (i := k) (by omega)
    have e : papL ats (k + 1) = papL ats k ++ [papF ats k] := map_range_S _ k
    have e1 : runR1 (papF ats k) (wyF days k) = [rpF ats days k] := by
      unfold runR1 lostB
      have h5 : ¬ 3652058 < (papF ats k).un + (wyF days k).fr := by show ¬ _ < dayF ats days k; omega
      rw [if_neg (by rw [decide_eq_false h5]; simp [wyF])]
      have e2 : copiesN (wyF days k).kind = 1 := rfl
      rw [e2]
      show [(⟨(k : Int), dayF ats days k + 1 + ((0 : Nat) : Int), ⟨(atG ats k).car, 1, dayF ats days k, dayF ats days k⟩⟩ : Rp)] = _
      rw [show dayF ats days k + 1 + ((0 : Nat) : Int) = dayF ats days k + 1 from by omega]
      rfl
    unfold runR at ih ⊢
    rw [e, List.flatMap_append, ih, map_range_S]
    simp only [List.flatMap_cons, List.flatMap_nil, List.append_nil]
    rw [show (papF ats k).car = (k : Int) from rfl, wayF_at days (by omega), e1]

theorem srv_at {ats : List At} {days : List Int} {D : List Dl} (h : D.Perm ((List.range ats.length).map (dlF ats days))) {i : Nat} (hi : i < ats.length) : srvF D (i : Int) (atG ats i).par = (dayF ats days i, true) := by
  have hm : dlF ats days i ∈ D := h.mem_iff.2 (List.mem_map.2 ⟨i, List.mem_range.2 hi, rfl⟩)
  unfold srvF
  cases hf : D.find? (fun d : Dl => d.att == (i : Int) && d.par == (atG ats i).par) with
  | none =>
    rw [List.find?_eq_none] at hf
    have := hf _ hm
    simp [dlF] at this
  | some d =>
    have h1 := List.find?_some hf
    obtain ⟨j, -, rfl⟩ := List.mem_map.1 (h.mem_iff.1 (List.mem_of_find?_eq_some hf))
    have h2 : ((j : Int) == (i : Int)) = true := by
      have h3 := h1
      simp only [Bool.and_eq_true] at h3
      exact h3.1
    have e : j = i := by have := of_decide_eq_true (p := (j : Int) = (i : Int)) (by simpa using h2); omega
    subst e
    rfl

/-! ### the returns come in -/
def doneB (R : List Rp) (k i : Nat) : Bool := (R.take k).any (fun r => r.att == (i : Int))
def atK (ats : List At) (days : List Int) (R : List Rp) (k : Nat) : List At := (List.range ats.length).map (fun i => if doneB R k i = true then at1F ats days i else at0F ats i)
theorem atK_len (ats : List At) (days : List Int) (R : List Rp) (k : Nat) : (atK ats days R k).length = ats.length := by simp [atK]
theorem atK_get (ats : List At) (days : List Int) (R : List Rp) (k : Nat) {i : Nat} (hi : i < (atK ats days R k).length) : (atK ats days R k)[i] = if doneB R k i = true then at1F ats days i else at0F ats i := by simp [atK]
theorem atK_0 (ats : List At) (days : List Int) (R : List Rp) : atK ats days R 0 = (List.range ats.length).map (at0F ats) := by simp [atK, doneB]
/-- The next report. -/
theorem atK_step {n : Nat} {ats : List At} {days : List Int} {R : List Rp} (hp : R.Perm ((List.range ats.length).map (rpF ats days))) {k : Nat} (hk : k < R.length) (hT : TrOk n ats) :
    ∃ i, i < ats.length ∧ R[k] = rpF ats days i ∧ retE n (atK ats days R k) (i : Int) (rtF ats days i) = 0 ∧ retL n (atK ats days R k) (i : Int) (rtF ats days i) = atK ats days R (k + 1) := by
  obtain ⟨i, hi, e⟩ := List.mem_map.1 (hp.mem_iff.1 (List.getElem_mem hk))
  rw [List.mem_range] at hi
  refine ⟨i, hi, e.symm, ?_⟩
  have hnd : (R.map (·.att)).Nodup := by
    have h1 : (R.map (·.att)).Perm (((List.range ats.length).map (rpF ats days)).map (·.att)) := hp.map _
    refine h1.nodup_iff.2 ?_
    rw [List.map_map]
    unfold List.Nodup
    rw [List.pairwise_map]
    refine List.Pairwise.imp ?_ (List.nodup_range (n := ats.length))
    intro a b hab h
    refine hab ?_
    have h' : (a : Int) = (b : Int) := h
    omega
  have hno : doneB R k i = false := by
    unfold doneB
    rw [List.any_eq_false]
    intro r hr
    obtain ⟨j, hj, rfl⟩ := List.mem_iff_getElem.1 hr
    rw [List.length_take] at hj
    rw [List.getElem_take]
    intro hb
    have hb' : R[j].att = (i : Int) := by simpa using hb
    have hk' : R[k].att = (i : Int) := by rw [← e]; rfl
    have hjk : (R.map (·.att))[j]'(by simp; omega) = (R.map (·.att))[k]'(by simp; omega) := by simp [hb', hk']
    exact (List.pairwise_iff_getElem.1 hnd j k (by simp; omega) (by simp; omega) (by omega)) hjk
  have hil : i < (atK ats days R k).length := by rw [atK_len]; exact hi
  have hget : (atK ats days R k)[i] = at0F ats i := by
    rw [atK_get, hno]
    rfl
  obtain ⟨h1, h2⟩ := ret_in (n := n) (r := rtF ats days i) hil
  rw [hget] at h1 h2
  have hg := hT.at hi
  have hd := dayF_in (days := days) hT hi
  have hc : chkF n ((at0F ats i).own ++ [rtF ats days i]) = 0 := by
    refine chkF_rets (fun r hr => ?_) (by simp [at0F])
    have er : r = rtF ats days i := by simpa [at0F] using hr
    subst er
    exact ⟨hg.2.2.1, .inl ⟨rfl, by show 0 ≤ dayF ats days i; omega, Int.le_refl _, by show dayF ats days i ≤ _; omega⟩⟩
  refine ⟨h1.trans hc, ?_⟩
  rw [h2, if_pos hc]
  apply List.ext_getElem
  · simp [atK]
  · intro j hj1 hj2
    have hjl : j < ats.length := by rw [atK_len] at hj2; exact hj2
    have hstep : doneB R (k + 1) j = (doneB R k j || decide (j = i)) := by
      unfold doneB
      rw [List.take_succ_eq_append_getElem hk, List.any_append]
      congr 1
      rw [← e]
      simp [rpF]
      exact decide_eq_decide.2 ⟨fun h => by omega, fun h => by omega⟩
    by_cases hji : j = i
    · subst hji
      rw [List.getElem_set_self]
      rw [atK_get, hstep]
      simp
      rfl
    · rw [List.getElem_set_ne (fun h => hji h.symm)]
      rw [atK_get, atK_get, hstep]
      simp [hji]
theorem atK_end {ats : List At} {days : List Int} {R : List Rp} (hp : R.Perm ((List.range ats.length).map (rpF ats days))) : atK ats days R R.length = (List.range ats.length).map (at1F ats days) := by
  unfold atK
  refine List.map_congr_left (fun i hi => ?_)
  have hm : rpF ats days i ∈ R := hp.mem_iff.2 (List.mem_map.2 ⟨i, hi, rfl⟩)
  have : doneB R R.length i = true := by
    unfold doneB
    rw [List.take_length, List.any_eq_true]
    exact ⟨_, hm, by simp [rpF]⟩
  rw [if_pos this]

/-! ### nothing is tolerated -/
theorem excTo_one {r : Ret} {cs : List (Int × Int)} {d : Int} (h0 : ∀ c ∈ cs, c.2 = 0) (hr : 0 ≤ r.car) : ∀ k, k ≤ cs.length → excTo [r] cs d k = if r.car < (k : Int) ∧ wrongB r d = true then 1 else 0
  | 0, _ => by
    show (0 : Int) = _
    rw [if_neg (by omega)]
  | k + 1, hk => by
    show excTo [r] cs d k + exTerm [r] cs d k = _
    rw [excTo_one h0 hr k (by omega)]
    have ht : (cs.getD k (0, 0)).2 = 0 := by
      rw [List.getD_eq_getElem?_getD, List.getElem?_eq_getElem (by omega)]
      exact h0 _ (List.getElem_mem _)
    unfold exTerm
    rw [ht, nW_cons]
    have hn : nW [] (k : Int) d = 0 := rfl
    rw [hn]
    by_cases hw : wrongB r d = true
    · by_cases h1 : r.car < (k : Int)
      · rw [if_pos ⟨h1, hw⟩, if_neg (by omega), if_pos ⟨by omega, hw⟩]; rfl
      · by_cases h2 : r.car = (k : Int)
        · rw [if_neg (by omega), if_pos ⟨h2, hw⟩, if_pos ⟨by omega, hw⟩]; rfl
        · rw [if_neg (by omega), if_neg (by omega), if_neg (by omega)]; rfl
    · rw [if_neg (fun h => hw h.2), if_neg (fun h => hw h.2), if_neg (fun h => hw h.2)]; rfl
theorem svd_tight {n : Nat} {ats : List At} (days : List Int) {cs : List (Int × Int)} (h0 : ∀ c ∈ cs, c.2 = 0) (hn : cs.length = n) (hT : TrOk n ats) {i : Nat} (hi : i < ats.length) : Svd [rtF ats days i] cs (atG ats i).sent (dayF ats days i, true) := by
  have hg := hT.at hi
  have hd := dayF_in (days := days) hT hi
  have hs := hg.2.2.2.1
  have hc := hg.2.2.1
  generalize hday : dayF ats days i = day at *
  have hex : ∀ d, excF [rtF ats days i] cs d = if d = day then 0 else 1 := fun d => by
    have e := excTo_one (r := rtF ats days i) (d := d) h0 hc.1 cs.length (Nat.le_refl _)
    have hw : wrongB (rtF ats days i) d = true ↔ ¬ d = day := by
      rw [wrongB_1 rfl]
      show (decide (d < dayF ats days i) || decide (dayF ats days i < d)) = true ↔ _
      rw [hday]
      simp
      omega
    have hc2 : (rtF ats days i).car < (cs.length : Int) := by rw [hn]; exact hc.2
    unfold excF
    rw [e]
    by_cases hdd : d = day
    · rw [if_neg (fun h => (hw.1 h.2) hdd), if_pos hdd]
    · rw [if_pos ⟨hc2, hw.2 hdd⟩, if_neg hdd]
  refine ⟨[(day, day)], false, alw_lit2 0 (val_one (by omega)) (apart_one _) (by simp; omega) (fun d h1 h2 => ?_) (fun p hp => ?_) ⟨day, .inr (by omega), ?_⟩ ?_, rfl⟩
  · rw [cov_one, hex]; split <;> omega
  · rw [hex]; split <;> omega
  · rw [hex, if_pos rfl]
  · rw [hex, if_neg (by omega)]; simp

/-! ### the least day -/
structure MinTo (ats : List At) (days : List Int) (en pa : Int) (k : Nat) (v : Int) : Prop where
  cs : (v = -1 ∧ ∀ i, i < k → ¬ ((atG ats i).ent = en ∧ (atG ats i).par = pa)) ∨ (0 ≤ v ∧ (∃ i, i < k ∧ ((atG ats i).ent = en ∧ (atG ats i).par = pa) ∧ dayF ats days i = v) ∧ ∀ i, i < k → ((atG ats i).ent = en ∧ (atG ats i).par = pa) → v ≤ dayF ats days i)
theorem MinTo.start (ats : List At) (days : List Int) (en pa : Int) : MinTo ats days en pa 0 (-1) := ⟨.inl ⟨rfl, fun _ h => absurd h (Nat.not_lt_zero _)⟩⟩
theorem MinTo.skip {ats : List At} {days : List Int} {en pa : Int} {k : Nat} {v : Int} (h : MinTo ats days en pa k v) (hm : ¬ ((atG ats k).ent = en ∧ (atG ats k).par = pa) ∨ (0 ≤ v ∧ v ≤ dayF ats days k)) : MinTo ats days en pa (k + 1) v := by
  refine ⟨?_⟩
  rcases h.cs with ⟨h1, h2⟩ | ⟨h1, ⟨i, hi, h3, h4⟩, h5⟩
  · refine .inl ⟨h1, fun i hi => ?_⟩
    rcases Nat.lt_succ_iff_lt_or_eq.1 hi with g | rfl
    · exact h2 i g
    · rcases hm with hm | hm
      · exact hm
      · omega
  · refine .inr ⟨h1, ⟨i, by omega, h3, h4⟩, fun j hj hmj => ?_⟩
    rcases Nat.lt_succ_iff_lt_or_eq.1 hj with g | rfl
    · exact h5 j g hmj
    · rcases hm with hm | hm
      · exact absurd hmj hm
      · exact hm.2
theorem MinTo.take {ats : List At} {days : List Int} {en pa : Int} {k : Nat} {v : Int} (h : MinTo ats days en pa k v) (hm : (atG ats k).ent = en ∧ (atG ats k).par = pa) (hv : v < 0 ∨ dayF ats days k < v) (h0 : 0 ≤ dayF ats days k) : MinTo ats days en pa (k + 1) (dayF ats days k) := by
  refine ⟨.inr ⟨h0, ⟨k, by omega, hm, rfl⟩, fun j hj hmj => ?_⟩⟩
  rcases Nat.lt_succ_iff_lt_or_eq.1 hj with g | rfl
  · rcases h.cs with ⟨-, h2⟩ | ⟨h1, -, h5⟩
    · exact absurd hmj (h2 j g)
    · have := h5 j g hmj
      omega
  · exact Int.le_refl _

def fT (a : At) : Int × Bool := match a.own with
  | [r] => (r.fr, true)
  | _ => (0, false)
theorem MinTo.done {ats : List At} {days : List Int} {en pa v : Int} {cs : List (Int × Int)} (h : MinTo ats days en pa ats.length v) : (ofF fT cs en pa ((List.range ats.length).map (at1F ats days))).isSome = decide (0 ≤ v) ∧ ∀ s, ofF fT cs en pa ((List.range ats.length).map (at1F ats days)) = some s → s.day = v := by
  generalize hl : (List.range ats.length).map (at1F ats days) = l at *
  have hlen : l.length = ats.length := by rw [← hl]; simp
  have hget : ∀ i (hi : i < l.length), l[i] = at1F ats days i := fun i hi => by subst hl; simp
  have hO := ofAt fT cs en pa l l.length (Nat.le_refl _)
  have hmat : ∀ i (hi : i < l.length), matB en pa l[i] = true ↔ ((atG ats i).ent = en ∧ (atG ats i).par = pa) := fun i hi => by
    rw [hget i hi]
    unfold matB
    rw [Bool.and_eq_true, decide_eq_true_eq, decide_eq_true_eq]
    exact Iff.rfl
  have hfT : ∀ i (hi : i < l.length), fT l[i] = (dayF ats days i, true) := fun i hi => by rw [hget i hi]; rfl
  have e : ofF fT cs en pa l = bestL (candTo fT cs en pa l l.length) := rfl
  rw [e]
  cases ho : bestL (candTo fT cs en pa l l.length) with
  | none =>
    refine ⟨?_, fun s hs => by cases hs⟩
    rcases h.cs with ⟨h1, -⟩ | ⟨h1, ⟨i, hi, h3, h4⟩, -⟩
    · rw [h1]; rfl
    · exfalso
      have := hO.no ho i (by omega) (by omega) ((hmat i (by omega)).2 h3)
      rw [hfT] at this
      cases this
  | some s =>
    obtain ⟨i, hi, -, rfl, hm, hf, hmin⟩ := hO.yes s ho
    have hms := (hmat i hi).1 hm
    have hday : (svOf fT cs l[i] i).day = dayF ats days i := by unfold svOf; simp only; rw [hfT]
    rcases h.cs with ⟨-, h2⟩ | ⟨h1, ⟨j, hj, h3, h4⟩, h5⟩
    · exact absurd hms (h2 i (by omega))
    · refine ⟨by simp [h1], fun s hs => ?_⟩
      injection hs with hs
      subst hs
      have g1 := h5 i (by omega) hms
      have g2 := (hmin j (by omega) (by omega) ((hmat j (by omega)).2 h3) (by rw [hfT])).1
      rw [hfT] at g2
      rw [hday] at g2 ⊢
      simp only at g2
      omega

end Go.Proofs.Ytdhiefgbajogcaa

namespace Go.Proofs.Ytdhiefgbajogcaa
open Go.RowKit

set_option maxHeartbeats 4000000 in
set_option maxRecDepth 100000 in
theorem carriers_own (l : List Int) (v : Value) (w : World) (hx : IsInts w v l) (hl : ∀ x ∈ l, I64 x) :
    Calls Try.prog 12 #[v] w fun e w' => ∃ v', e = .returned v' ∧ ∃ cs, Hid (GenCar cs ∧ 1 ≤ cs.length ∧ cs.length ≤ 4) ∧ w'.ownsRow w.heap.size 53 2 v' cs.length (spCells cs) ∧ Below w.heap.size w w' := by
  have HX := Lib.hid hx
  have HPK : Hid (∀ (i : Nat) (most : Int) (W : World), i ≤ 1000000 → 0 < most → most ≤ 1000000000 → IsInts W v l → Calls Try.prog 32 #[v, .int .i64 i, .int .i64 most] W fun e w' => e = .returned (.int .i64 (pickF l i most)) ∧ W = w') := fun i most W h0 h1 h2 h3 => pick_any l v i most W h3 hl h0 h1 h2
  have HPB : Hid (∀ (i : Nat) (most : Int), 0 < most → 0 ≤ pickF l i most ∧ pickF l i most < most) := fun i most h => pickF_in l i most h
  obtain ⟨a, cap, rfl, -, -, -⟩ := hx.open
  clear hx hl
  go_enter Try.func12, Try.ntmps12
  go_wp2_with fail
  go_loopw [3, 4] (fun o i wr => ∃ (j : Nat) (v3 : Value) (cs : List (Int × Int)), v3 = o ∧ i = .int .i64 j ∧ j ≤ 4 ∧ cs.length = j ∧ Hid (GenCar cs) ∧ Hid (wr.ownsRow w.heap.size 53 2 v3 j (spCells cs)) ∧ Hid (Below w.heap.size w wr)) (fun _ i _ => 20 - (intOf i).toNat)
  case atStart => exact ⟨0, _, [], rfl, rfl, by omega, rfl, Lib.hid (fun c hc => by cases hc), Lib.hid (World.ownsRow_nil _ _ _ _), Lib.hid (Below.refl _ _)⟩
  case round =>
    obtain ⟨j, v3, cs, rfl, rfl, hj, hcj, HG, HOW, HBR⟩ := hrel
    have HP0 := Lib.hid (HPK.out 0 4 wr (by omega) (by omega) (by omega) (HX.out.below HBR.out))
    have HP1 := Lib.hid (HPK.out (1 + j) 1000 wr (by omega) (by omega) (by omega) (HX.out.below HBR.out))
    obtain ⟨hb0, hb1⟩ := HPB.out 0 4 (by omega)
    obtain ⟨hd0, hd1⟩ := HPB.out (1 + j) 1000 (by omega)
    generalize pickF l 0 4 = P0 at *
    generalize pickF l (1 + j) 1000 = P1 at *
    by_cases hgo : (j : Int) ≤ P0
    · have hw2 : IntKind.i64.wrap (1 + (j : Int)) = ((1 + j : Nat) : Int) := by rw [IntKind.wrap_i64]; omega
      have hw3 : IntKind.i64.wrap ((j : Int) + 1) = ((j + 1 : Nat) : Int) := by rw [IntKind.wrap_i64]; omega
      obtain ⟨p, rfl⟩ := Int.eq_ofNat_of_zero_le hd0
      obtain ⟨a3, c3, rfl, -, -⟩ := owns_slice HOW.out
      have hsz := HBR.out.size
      go_wp2_with fail
      refine HP0.out.mono ?_
      rintro e w' ⟨rfl, rfl⟩
      go_wp2_with fail
      refine HP1.out.mono ?_
      rintro e w' ⟨rfl, rfl⟩
      go_wp2_with fail
      obtain ⟨k1, hk1⟩ : ∃ k1 : Nat, p % 4 = k1 := ⟨_, rfl⟩
      obtain ⟨q, hq⟩ : ∃ q : Nat, p / 4 = q := ⟨_, rfl⟩
      obtain ⟨k2, hk2⟩ : ∃ k2 : Nat, q % 4 = k2 := ⟨_, rfl⟩
      have hk1' : k1 < 4 := by omega
      have hk2' : k2 < 4 := by omega
      have m1 : Int.tmod (p : Int) 4 = (k1 : Int) := by rw [Int.tmod_eq_emod_of_nonneg (by omega)]; omega
      have m2 : Int.tdiv (p : Int) 4 = (q : Int) := by rw [Int.tdiv_eq_ediv_of_nonneg (by omega)]; omega
      have m3 : Int.tmod (q : Int) 4 = (k2 : Int) := by rw [Int.tmod_eq_emod_of_nonneg (by omega)]; omega
      have n1 : (p : Int) % 4 = (k1 : Int) := by omega
      have n2 : (p : Int) / 4 = (q : Int) := by omega
      have n3 : (q : Int) % 4 = (k2 : Int) := by omega
      have n4 : IntKind.i64.wrap (q : Int) = (q : Int) := by rw [IntKind.wrap_i64]; omega
      obtain ⟨x1, E1, hx0, hx5⟩ : ∃ x1 : Int, (#[.int .i64 0, .int .i64 3, .int .i64 5, .int .i64 2] : Array Value)[k1]? = some (.int .i64 x1) ∧ 0 ≤ x1 ∧ x1 ≤ 5 := by
        rcases (by omega : k1 = 0 ∨ k1 = 1 ∨ k1 = 2 ∨ k1 = 3) with rfl | rfl | rfl | rfl <;> exact ⟨_, rfl, by omega, by omega⟩
      obtain ⟨x2, E2, hy0, hy2⟩ : ∃ x2 : Int, (#[.int .i64 0, .int .i64 0, .int .i64 1, .int .i64 2] : Array Value)[k2]? = some (.int .i64 x2) ∧ 0 ≤ x2 ∧ x2 ≤ 2 := by
        rcases (by omega : k2 = 0 ∨ k2 = 1 ∨ k2 = 2 ∨ k2 = 3) with rfl | rfl | rfl | rfl <;> exact ⟨_, rfl, by omega, by omega⟩
      have i1 : (k1 : Int) < 4 := by omega
      have i2 : (k2 : Int) < 4 := by omega
      have A1 : ∀ X : World, (X.alloc (.cells #[.int .i64 0, .int .i64 3, .int .i64 5, .int .i64 2] 3)).cell? ⟨X.heap.size, k1, none⟩ = some (.int .i64 x1) := fun X => (cells_alloc X _ _ k1).trans E1
      have A2 : ∀ (X : World) (o : Obj), ((X.alloc (.cells #[.int .i64 0, .int .i64 3, .int .i64 5, .int .i64 2] 3)).alloc o).cell? ⟨X.heap.size, k1, none⟩ = some (.int .i64 x1) := fun X o => (((Below.refl _ _).alloc (Nat.le_refl _) o).cell (p := ⟨X.heap.size, k1, none⟩) (by simp)).trans (A1 X)
      have A3 : ∀ (X : World) (o : Obj), ((X.alloc o).alloc (.cells #[.int .i64 0, .int .i64 3, .int .i64 5, .int .i64 2] 3)).cell? ⟨X.heap.size + 1, k1, none⟩ = some (.int .i64 x1) := fun X o => by
        have h := A1 (X.alloc o)
        rw [World.size_alloc] at h
        exact h
      have B1 : ∀ X : World, (X.alloc (.cells #[.int .i64 0, .int .i64 0, .int .i64 1, .int .i64 2] 3)).cell? ⟨X.heap.size, k2, none⟩ = some (.int .i64 x2) := fun X => (cells_alloc X _ _ k2).trans E2
      have B2 : ∀ (X : World) (o : Obj), ((X.alloc (.cells #[.int .i64 0, .int .i64 0, .int .i64 1, .int .i64 2] 3)).alloc o).cell? ⟨X.heap.size, k2, none⟩ = some (.int .i64 x2) := fun X o => (((Below.refl _ _).alloc (Nat.le_refl _) o).cell (p := ⟨X.heap.size, k2, none⟩) (by simp)).trans (B1 X)
      have B3 : ∀ (X : World) (o : Obj), ((X.alloc o).alloc (.cells #[.int .i64 0, .int .i64 0, .int .i64 1, .int .i64 2] 3)).cell? ⟨X.heap.size + 1, k2, none⟩ = some (.int .i64 x2) := fun X o => by
        have h := B1 (X.alloc o)
        rw [World.size_alloc] at h
        exact h
      have HG2 : Hid (GenCar (cs ++ [(x1, x2)])) := fun c hc => by
        rcases List.mem_append.1 hc with h | h
        · exact HG.out c h
        · simp at h; subst h; exact ⟨hx0, hx5, hy0, hy2⟩
      have HRL : Hid (∀ W : World, Rd (W.alloc (.cells (litSp (x1, x2)) 53)) (.slice (some ⟨W.heap.size, 0, none⟩) 1 1) 2 1 (spRow (x1, x2))) := fun W => Rd.lit W (litSp (x1, x2)) 53 2 1 rfl (by unfold maxLen; omega)
      have HN1 : Hid (j + 1 ≤ maxLen) := (by show _ ≤ _; unfold maxLen; omega)
      have HN2 : Hid ((j + 1) * 16 ≤ 140737488355328) := (by show _ ≤ _; omega)
      have HBA : Hid (∀ X1 X2 X3 : Obj, Below wr.heap.size wr (((wr.alloc X1).alloc X2).alloc X3).drew) := fun X1 X2 X3 => ((((Below.refl _ _).alloc (Nat.le_refl _) _).alloc (by simp) _).alloc (by simp; omega) _).drew
      have HSA : Hid (∀ X1 X2 X3 : Obj, w.heap.size ≤ (((wr.alloc X1).alloc X2).alloc X3).drew.heap.size) := fun X1 X2 X3 => Nat.le_trans hsz (HBA.out X1 X2 X3).size
      have HRA : Hid (∀ X1 X2 : Obj, Rd (((wr.alloc X1).alloc X2).alloc (.cells (litSp (x1, x2)) 53)).drew (.slice (some ⟨wr.heap.size + 1 + 1, 0, none⟩) 1 1) 2 1 (spRow (x1, x2))) := fun X1 X2 => by
        have h := (HRL.out ((wr.alloc X1).alloc X2)).below ((Below.refl _ _).drew)
        rw [World.size_alloc, World.size_alloc] at h
        exact h
      go_region_law
        (first
          | (refine step_append_rd (by rfl) _ _ 24 (by rfl) w.heap.size 53 _ 2 16 Try.underlying24 infoCar rfl (by decide) (.slice a3 j c3) j (spCells cs) (by rfl) (owns_below HOW.out (HBA.out _ _ _)) _ 1 (spRow (x1, x2)) (by rfl) (HRA.out _ _) (spCells_one [(x1, x2)]) HN1.out HN2.out (HSA.out _ _ _) ?_
             intro v8 w8 hv8 hg8
             have HV8 := Lib.hid hv8
             have HB8 := Lib.hid (below_append (Below.to HBR.out (HBA.out _ _ _) hsz) (owns_below HOW.out (HBA.out _ _ _)) hg8 (HSA.out _ _ _))
             clear hv8 hg8))
      all_goals
        have HO8 : Hid (w8.ownsRow w.heap.size 53 2 v8 (j + 1) (spCells (cs ++ [(x1, x2)]))) := by
          show World.ownsRow _ _ _ _ _ _ _
          rw [spCells_append, spCells_single]
          exact HV8.out
        clear HV8 HBA HSA HRA A1 A2 A3 B1 B2 B3
        go_wp2_with fail
        go_roundw
        case rel => exact ⟨j + 1, _, _, rfl, by go_num, by omega, by rw [List.length_append, List.length_singleton]; omega, HG2, HO8, HB8⟩
        case measure => simp [intOf]; omega
    · have HF : Hid (GenCar cs ∧ 1 ≤ cs.length ∧ cs.length ≤ 4) := ⟨HG.out, by omega, by omega⟩
      have HV : Hid (wr.ownsRow w.heap.size 53 2 v3 cs.length (spCells cs)) := by show World.ownsRow _ _ _ _ _ _ _; rw [hcj]; exact HOW.out
      have hgo' : P0 < (j : Int) := by omega
      go_wp2_with fail
      refine HP0.out.mono ?_
      rintro e w' ⟨rfl, rfl⟩
      go_wp2_with fail
      go_ret
      exact ⟨_, rfl, cs, HF, HV.out, HBR.out⟩

set_option maxHeartbeats 1000000 in
theorem made21o (c l : List Int) (v u : Value) (en pa : Int) (w : World) (hx : IsInts w v c) (hc : ∀ x ∈ c, I64 x) (hy : IsInts w u l) (hl : ∀ x ∈ l, I64 x) :
    Calls Try.prog 17 #[.agg #[v, u, .int .i64 en, .int .i64 pa]] w fun e w' => ∃ v1 v2, e = .returned (.tuple #[v1, v2]) ∧ ∃ cs ats, Hid (GenCar cs ∧ 1 ≤ cs.length ∧ cs.length ≤ 4) ∧ Hid (GenAts cs.length ats ∧ ats.length ≤ 8) ∧ w'.ownsRow w.heap.size 53 2 v1 cs.length (spCells cs) ∧ (∃ us, OwnAts w' w.heap.size 29 37 v2 ats us ats.length) ∧ Below w.heap.size w w' := by
  obtain ⟨a1, c1, rfl, -, -, -⟩ := hx.open
  obtain ⟨a2, c2, rfl, -, -, -⟩ := hy.open
  obtain ⟨W0, hW0⟩ : ∃ W0, W0 = w.alloc (.cells #[.slice a1 c.length c1, .slice a2 l.length c2, .int .i64 en, .int .i64 pa] 35) := ⟨_, rfl⟩
  obtain ⟨P, hP⟩ : ∃ P, P = w.heap.size := ⟨_, rfl⟩
  have hA : W0.heap[P]? = some (.cells #[.slice a1 c.length c1, .slice a2 l.length c2, .int .i64 en, .int .i64 pa] 35) := by rw [hW0, hP]; exact heap_alloc_new w _
  have hZ : P < W0.heap.size := by rw [hW0, hP]; simp
  have y0 : W0.cell? ⟨P, 0, none⟩ = some (.slice a1 c.length c1) := by simp [World.cell?, hA]
  have y1 : W0.cell? ⟨P, 1, none⟩ = some (.slice a2 l.length c2) := by simp [World.cell?, hA]
  have HK : Hid (∀ X, Below W0.heap.size W0 X → X.cell? ⟨P, 1, none⟩ = some (.slice a2 l.length c2)) := fun X hX => (hX.cell (p := ⟨P, 1, none⟩) hZ).trans y1
  have HPS := Lib.hid hP
  have hb0 : Below w.heap.size w W0 := by rw [hW0]; exact (Below.refl _ _).alloc (Nat.le_refl _) _
  have HB0 := Lib.hid hb0
  have HY := Lib.hid (hy.below hb0)
  have HCA := Lib.hid (carriers_own c _ W0 (hx.below hb0) hc)
  have HAT : Hid (∀ (cs : List (Int × Int)) (v1 : Value) (W : World), IsInts W (.slice a2 l.length c2) l → IsSps W v1 cs → 1 ≤ cs.length → cs.length ≤ 4 → Calls Try.prog 16 #[.slice a2 l.length c2, v1] W fun e w' => ∃ v', e = .returned v' ∧ ∃ ats, Hid (GenAts cs.length ats ∧ ats.length ≤ 8) ∧ (∃ us, OwnAts w' W.heap.size 29 37 v' ats us ats.length) ∧ Below W.heap.size W w') := fun cs v1 W h1 h2 h3 h4 => attempts_any l cs _ v1 W h1 hl h2 h3 h4
  have HWE := Lib.hid hW0
  clear hx hy hc hl hW0 hb0 hA hZ hP
  go_enter Try.func17, Try.ntmps17
  go_wp2_with fail
  rw [← HWE.out]
  refine HCA.out.mono ?_
  rintro e w1 ⟨v1, rfl, cs, HG, hv1, hb1⟩
  have HO1 := Lib.hid hv1
  have hv1 := IsSps.of_owns hv1
  have HV1 := Lib.hid hv1
  have HB1 := Lib.hid hb1
  have HY1 := Lib.hid (HY.out.below hb1)
  have z1 := HK.out _ hb1
  obtain ⟨a3, c3, rfl, -, -, -⟩ := hv1.open
  clear hv1 hb1 HCA y0 y1
  rw [← HPS.out]
  go_wp2_with fail
  refine (HAT.out cs _ w1 HY1.out HV1.out HG.out.2.1 HG.out.2.2).mono ?_
  rintro e w2 ⟨v2, rfl, ats, HR, hv2, hb2⟩
  obtain ⟨us, hv2⟩ := hv2
  have HO2 := Lib.hid hv2
  have HB2 := Lib.hid hb2
  obtain ⟨a4, c4, rfl, -, -⟩ := owns_slice hv2.row
  clear hv2 hb2
  go_wp2_with fail
  go_ret2
  exact ⟨_, _, rfl, cs, ats, HG, HR, owns_mono (owns_below HO1.out HB2.out) HB0.out.size, ⟨us, HO2.out.mono (Nat.le_trans HB0.out.size HB1.out.size)⟩, Below.to (Below.to HB0.out HB1.out HB0.out.size) HB2.out (Below.to HB0.out HB1.out HB0.out.size).size⟩

end Go.Proofs.Ytdhiefgbajogcaa
