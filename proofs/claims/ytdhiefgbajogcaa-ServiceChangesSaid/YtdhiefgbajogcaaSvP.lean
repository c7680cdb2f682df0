/-
  Services in plain words: the errors of attempts, the first of the least days. No program in sight.
-/
import Derived.Test.YtdhiefgbajogcaaAt
import Derived.Test.YtdhiefgbajogcaaRtC
import Derived.Test.YtdhiefgbajogcaaRtW
namespace Go.Proofs.Ytdhiefgbajogcaa

/-! ### the errors -/
def headB (n : Nat) (a : At) : Bool := (decide (0 ≤ a.ent) && decide (a.ent ≤ 65535)) && ((decide (0 ≤ a.par) && decide (a.par ≤ 63)) && ((decide (0 ≤ a.car) && decide (a.car ≤ (n : Int) - 1)) && (decide (0 ≤ a.sent) && decide (a.sent ≤ 3652058))))
def chkA (n : Nat) (a : At) : Int := if headB n a = true then chkF n a.own else 5
def chkAs (n : Nat) : List At → Int
  | [] => 0
  | a :: l => if chkA n a = 0 then chkAs n l else chkA n a
def chkL (n : Nat) (l : List At) : Int := if 65536 < l.length then 2 else chkAs n l
def AtOk (n : Nat) (a : At) : Prop := chkA n a = 0
def AtsOk (n : Nat) (l : List At) : Prop := ∀ a ∈ l, AtOk n a

theorem chkF_in (n : Nat) (l : List Ret) : chkF n l = 0 ∨ chkF n l = 2 ∨ chkF n l = 5 := by
  unfold chkF
  split
  · exact .inr (.inl rfl)
  · split
    · exact .inl rfl
    · exact .inr (.inr rfl)
theorem chkA_in (n : Nat) (a : At) : chkA n a = 0 ∨ chkA n a = 2 ∨ chkA n a = 5 := by
  unfold chkA
  split
  · exact chkF_in n a.own
  · exact .inr (.inr rfl)
theorem headB_iff {n : Nat} {a : At} : headB n a = true ↔ (0 ≤ a.ent ∧ a.ent ≤ 65535) ∧ (0 ≤ a.par ∧ a.par ≤ 63) ∧ (0 ≤ a.car ∧ a.car ≤ (n : Int) - 1) ∧ (0 ≤ a.sent ∧ a.sent ≤ 3652058) := by
  simp [headB]
theorem AtOk.head {n : Nat} {a : At} (h : AtOk n a) : (0 ≤ a.ent ∧ a.ent ≤ 65535) ∧ (0 ≤ a.par ∧ a.par ≤ 63) ∧ (0 ≤ a.car ∧ a.car ≤ (n : Int) - 1) ∧ (0 ≤ a.sent ∧ a.sent ≤ 3652058) := by
  by_cases hb : headB n a = true
  · exact headB_iff.1 hb
  · unfold AtOk chkA at h
    rw [if_neg hb] at h
    omega
theorem AtOk.rets {n : Nat} {a : At} (h : AtOk n a) : RetsOk n a.own ∧ a.own.length ≤ 32 := by
  have hb : headB n a = true := headB_iff.2 h.head
  unfold AtOk chkA at h
  rw [if_pos hb] at h
  exact chkF_zero h
theorem AtOk.of {n : Nat} {a : At} (h : (0 ≤ a.ent ∧ a.ent ≤ 65535) ∧ (0 ≤ a.par ∧ a.par ≤ 63) ∧ (0 ≤ a.car ∧ a.car ≤ (n : Int) - 1) ∧ (0 ≤ a.sent ∧ a.sent ≤ 3652058)) (hr : RetsOk n a.own) (hl : a.own.length ≤ 32) : AtOk n a := by
  unfold AtOk chkA
  rw [if_pos (headB_iff.2 h)]
  exact chkF_rets hr hl
theorem chkAs_bad {n : Nat} : ∀ {l : List At} {k : Nat} (hk : k < l.length), (∀ j (hj : j < l.length), j < k → chkA n l[j] = 0) → chkA n l[k] ≠ 0 → chkAs n l = chkA n l[k]
  | [], _, hk, _, _ => absurd hk (Nat.not_lt_zero _)
  | a :: l, 0, _, _, h => by
    have h' : chkA n a ≠ 0 := h
    unfold chkAs
    rw [if_neg h']
    rfl
  | a :: l, k + 1, hk, h, hb => by
    have h0 : chkA n a = 0 := h 0 (by simp) (by omega)
    unfold chkAs
    rw [if_pos h0]
    exact chkAs_bad (l := l) (k := k) (by simpa using hk) (fun j hj hjk => h (j + 1) (by simpa using hj) (by omega)) hb
theorem chkAs_ok {n : Nat} : ∀ {l : List At}, (∀ j (hj : j < l.length), chkA n l[j] = 0) → chkAs n l = 0
  | [], _ => rfl
  | a :: l, h => by
    have h0 : chkA n a = 0 := h 0 (by simp)
    unfold chkAs
    rw [if_pos h0]
    exact chkAs_ok (l := l) (fun j hj => h (j + 1) (by simpa using hj))
theorem AtsOk.chk {n : Nat} {l : List At} (h : AtsOk n l) (hl : l.length ≤ 65536) : chkL n l = 0 := by
  unfold chkL
  rw [if_neg (by omega)]
  exact chkAs_ok (fun j _ => h _ (List.getElem_mem _))

/-! ### the service -/
def matB (e p : Int) (a : At) : Bool := decide (a.ent = e) && decide (a.par = p)
/-- Day, days more, attempt. -/
structure Sv where
  day : Int
  ext : Int
  att : Int
def svOf (f : At → Int × Bool) (cs : List (Int × Int)) (a : At) (i : Nat) : Sv := ⟨(f a).1, (cs.getD a.car.toNat (0, 0)).1, i⟩
def candTo (f : At → Int × Bool) (cs : List (Int × Int)) (e p : Int) (l : List At) : Nat → List Sv
  | 0 => []
  | k + 1 => match l[k]? with
    | none => candTo f cs e p l k
    | some a => if matB e p a = true ∧ (f a).2 = true then candTo f cs e p l k ++ [svOf f cs a k] else candTo f cs e p l k
def bstep (o : Option Sv) (y : Sv) : Option Sv := match o with
  | none => some y
  | some x => if y.day < x.day then some y else some x
def bestL (l : List Sv) : Option Sv := l.foldl bstep none
def ofF (f : At → Int × Bool) (cs : List (Int × Int)) (e p : Int) (l : List At) : Option Sv := bestL (candTo f cs e p l l.length)

theorem candTo_take {f : At → Int × Bool} {cs : List (Int × Int)} {e p : Int} {l : List At} {k : Nat} (hk : k < l.length) : candTo f cs e p l (k + 1) = if matB e p l[k] = true ∧ (f l[k]).2 = true then candTo f cs e p l k ++ [svOf f cs l[k] k] else candTo f cs e p l k := by
  show (match l[k]? with | none => _ | some a => _) = _
  rw [List.getElem?_eq_getElem hk]
theorem candTo_len (f : At → Int × Bool) (cs : List (Int × Int)) (e p : Int) (l : List At) : ∀ k, (candTo f cs e p l k).length ≤ k
  | 0 => Nat.le_refl _
  | k + 1 => by
    have ih := candTo_len f cs e p l k
    show (match l[k]? with | none => _ | some a => _ : List Sv).length ≤ _
    split
    · omega
    · split
      · rw [List.length_append, List.length_singleton]; omega
      · omega
theorem bestL_snoc (l : List Sv) (y : Sv) : bestL (l ++ [y]) = bstep (bestL l) y := by unfold bestL; rw [List.foldl_append]; rfl
theorem bestL_nil : bestL [] = none := rfl
theorem bestL_one (x : Sv) : bestL [x] = some x := rfl

/-- What the first of the least days is. -/
structure OfAt (f : At → Int × Bool) (cs : List (Int × Int)) (e p : Int) (l : List At) (k : Nat) (o : Option Sv) : Prop where
  no : o = none → ∀ i (hi : i < l.length), i < k → matB e p l[i] = true → (f l[i]).2 = false
  yes : ∀ s, o = some s → ∃ i, ∃ hi : i < l.length, i < k ∧ s = svOf f cs l[i] i ∧ matB e p l[i] = true ∧ (f l[i]).2 = true ∧ ∀ j (hj : j < l.length), j < k → matB e p l[j] = true → (f l[j]).2 = true → s.day ≤ (f l[j]).1 ∧ (j < i → s.day < (f l[j]).1)
theorem ofAt (f : At → Int × Bool) (cs : List (Int × Int)) (e p : Int) (l : List At) : ∀ k, k ≤ l.length → OfAt f cs e p l k (bestL (candTo f cs e p l k))
  | 0, _ => ⟨fun _ i _ h => absurd h (Nat.not_lt_zero _), fun s h => by cases h⟩
  | k + 1, hk => by
    have ih := ofAt f cs e p l k (by omega)
    have hkl : k < l.length := by omega
    rw [candTo_take hkl]
    by_cases hm : matB e p l[k] = true ∧ (f l[k]).2 = true
    · rw [if_pos hm, bestL_snoc]
      cases ho : bestL (candTo f cs e p l k) with
      | none =>
        rw [ho] at ih
        refine ⟨fun h => (by cases h), fun s hs => ?_⟩
        injection hs with hs
        subst hs
        refine ⟨k, hkl, by omega, rfl, hm.1, hm.2, fun j hj hjk hmj hfj => ?_⟩
        rcases Nat.lt_succ_iff_lt_or_eq.1 hjk with h | rfl
        · have := ih.no rfl j hj h hmj
          rw [this] at hfj
          cases hfj
        · exact ⟨Int.le_refl _, fun h => absurd h (Nat.lt_irrefl _)⟩
      | some x =>
        rw [ho] at ih
        obtain ⟨i, hi, hik, rfl, h1, h2, h3⟩ := ih.yes x rfl
        by_cases hlt : (svOf f cs l[k] k).day < (svOf f cs l[i] i).day
        · have e1 : bstep (some (svOf f cs l[i] i)) (svOf f cs l[k] k) = some (svOf f cs l[k] k) := if_pos hlt
          rw [e1]
          refine ⟨fun h => (by cases h), fun s hs => ?_⟩
          injection hs with hs
          subst hs
          refine ⟨k, hkl, by omega, rfl, hm.1, hm.2, fun j hj hjk hmj hfj => ?_⟩
          rcases Nat.lt_succ_iff_lt_or_eq.1 hjk with h | rfl
          · have := (h3 j hj h hmj hfj).1
            exact ⟨by omega, fun _ => by omega⟩
          · exact ⟨Int.le_refl _, fun h => absurd h (Nat.lt_irrefl _)⟩
        · have e1 : bstep (some (svOf f cs l[i] i)) (svOf f cs l[k] k) = some (svOf f cs l[i] i) := if_neg hlt
          rw [e1]
          refine ⟨fun h => (by cases h), fun s hs => ?_⟩
          injection hs with hs
          subst hs
          refine ⟨i, hi, by omega, rfl, h1, h2, fun j hj hjk hmj hfj => ?_⟩
          rcases Nat.lt_succ_iff_lt_or_eq.1 hjk with h | rfl
          · exact h3 j hj h hmj hfj
          · have hd : (svOf f cs l[j] j).day = (f l[j]).1 := rfl
            exact ⟨by omega, fun h => by omega⟩
    · rw [if_neg hm]
      refine ⟨fun h i hi hik hmi => ?_, fun s hs => ?_⟩
      · rcases Nat.lt_succ_iff_lt_or_eq.1 hik with h' | rfl
        · exact ih.no h i hi h' hmi
        · cases hf : (f l[i]).2 with
          | false => rfl
          | true => exact absurd ⟨hmi, hf⟩ hm
      · obtain ⟨i, hi, hik, rfl, h1, h2, h3⟩ := ih.yes s hs
        refine ⟨i, hi, by omega, rfl, h1, h2, fun j hj hjk hmj hfj => ?_⟩
        rcases Nat.lt_succ_iff_lt_or_eq.1 hjk with h' | rfl
        · exact h3 j hj h' hmj hfj
        · exact absurd ⟨hmj, hfj⟩ hm

/-- What is found depends on the attempts alone. -/
theorem candTo_congr {f g : At → Int × Bool} {cs : List (Int × Int)} {e p : Int} {l m : List At} (h : ∀ i : Nat, (l[i]?).map (fun a => (matB e p a, f a, a.car)) = (m[i]?).map (fun a => (matB e p a, g a, a.car))) : ∀ k, candTo f cs e p l k = candTo g cs e p m k
  | 0 => rfl
  | k + 1 => by
    have ih := candTo_congr (cs := cs) h k
    have hk := h k
    unfold candTo
    cases hl : l[k]? with
    | none =>
      rw [hl] at hk
      cases hm : m[k]? with
      | none => exact ih
      | some b => rw [hm] at hk; cases hk
    | some a =>
      rw [hl] at hk
      cases hm : m[k]? with
      | none => rw [hm] at hk; cases hk
      | some b =>
        rw [hm] at hk
        simp only [Option.map_some, Option.some.injEq, Prod.mk.injEq] at hk
        obtain ⟨h1, h2, h3⟩ := hk
        simp only
        rw [ih, h1, h2]
        unfold svOf
        rw [h2, h3]

end Go.Proofs.Ytdhiefgbajogcaa
