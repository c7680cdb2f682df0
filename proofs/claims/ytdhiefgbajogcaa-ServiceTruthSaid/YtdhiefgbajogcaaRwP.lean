/-
  What is allowed is there, and so the day of service (plain). No program in sight.
  Services in plain words: the errors of attempts, the first of the least days. No program in sight.
  Laws of services in plain words. No program in sight.
-/
import Derived.Test.YtdhiefgbajogcaaRtI
import Derived.Test.YtdhiefgbajogcaaRtQ
import Derived.Test.YtdhiefgbajogcaaAt
import Derived.Test.YtdhiefgbajogcaaRtC
namespace Go.Proofs.Ytdhiefgbajogcaa

theorem seg_exists (l : List Ret) (sent : Int) : ∃ ds, SegPts l sent ds := by
  have h : DyAt sent (cands l) (sent :: 3652059 :: (cands l).filter (fun x => decide (sent < x) && decide (x ≤ 3652058))) := fun x => by
    simp only [List.mem_cons, List.mem_filter, Bool.and_eq_true, decide_eq_true_eq]
    constructor
    · rintro (h | h | ⟨h1, h2, h3⟩)
      · exact .inl h
      · exact .inr (.inl h)
      · exact .inr (.inr ⟨h2, h3, h1⟩)
    · rintro (h | h | ⟨h1, h2, h3⟩)
      · exact .inl h
      · exact .inr (.inl h)
      · exact .inr (.inr ⟨h3, h1, h2⟩)
  have hp := List.mergeSort_perm (sent :: 3652059 :: (cands l).filter (fun x => decide (sent < x) && decide (x ≤ 3652058))) (fun a b => decide (a ≤ b))
  have hs := List.pairwise_mergeSort (le := fun a b : Int => decide (a ≤ b)) (fun a b c h1 h2 => by simp at *; omega) (fun a b => by simp; omega) (sent :: 3652059 :: (cands l).filter (fun x => decide (sent < x) && decide (x ≤ 3652058)))
  exact ⟨_, h.seg hp (hs.imp (fun h => by simpa using h))⟩
theorem least_exists (l : List Ret) (cs : List (Int × Int)) (ds : List Int) : ∀ i, i ≤ ds.length → ∃ t, LeastAt l cs ds i t
  | 0, _ => ⟨_, LeastAt.start l cs ds⟩
  | i + 1, h => by
    obtain ⟨t, ht⟩ := least_exists l cs ds i (by omega)
    by_cases hlt : excF l cs (ds[i]'(by omega)) < t
    · exact ⟨_, ht.less (by omega) hlt⟩
    · exact ⟨_, ht.same (by omega) (by omega)⟩
theorem pick_exists {l : List Ret} {cs : List (Int × Int)} {sent : Int} {ds : List Int} (t : Int) (hseg : SegPts l sent ds) (hs0 : 0 ≤ sent) (hs : sent ≤ 3652058) : ∀ i, i + 1 ≤ ds.length → ∃ out, PickAt l cs ds t i out
  | 0, _ => ⟨_, PickAt.start l cs ds t⟩
  | i + 1, h => by
    obtain ⟨out, ho⟩ := pick_exists (cs := cs) t hseg hs0 hs i (by omega)
    by_cases he : excF l cs (ds[i]'(by omega)) = t
    · exact ⟨_, ho.take hseg hs0 hs (by omega) he⟩
    · exact ⟨_, ho.skip (by omega) he⟩
theorem alw_exists (l : List Ret) (cs : List (Int × Int)) {sent : Int} (hs0 : 0 ≤ sent) (hs : sent ≤ 3652058) : ∃ out nv, Alw l cs sent out nv := by
  obtain ⟨ds, hseg⟩ := seg_exists l sent
  obtain ⟨hl, -⟩ := hseg.last hs
  obtain ⟨t, ht⟩ := least_exists l cs ds (ds.length - 1) (by omega)
  obtain ⟨out, ho⟩ := pick_exists (cs := cs) t hseg hs0 hs (ds.length - 1) (by omega)
  exact ⟨_, _, ho.done ht (by omega) hseg hs0 hs⟩

/-- The day of service by some returns. -/
def Svd (l : List Ret) (cs : List (Int × Int)) (sent : Int) (r : Int × Bool) : Prop := ∃ out nv, Alw l cs sent out nv ∧ r = servedF out nv
theorem Svd.eq {l m : List Ret} {cs : List (Int × Int)} {sent : Int} {r r' : Int × Bool} (h : Svd l cs sent r) (h' : Svd m cs sent r') (he : ∀ p, Poss sent p → excF l cs p = excF m cs p) : r = r' := by
  obtain ⟨o, n, h1, rfl⟩ := h
  obtain ⟨o', n', h2, rfl⟩ := h'
  obtain ⟨rfl, rfl⟩ := h1.eq h2 he
  rfl
theorem svd_exists (l : List Ret) (cs : List (Int × Int)) {sent : Int} (hs0 : 0 ≤ sent) (hs : sent ≤ 3652058) : ∃ r, Svd l cs sent r := by
  obtain ⟨o, n, h⟩ := alw_exists l cs hs0 hs
  exact ⟨_, o, n, h, rfl⟩

end Go.Proofs.Ytdhiefgbajogcaa

namespace Go.Proofs.Ytdhiefgbajogcaa

/-! ### the errors -/
def headB (n : Nat) (a : At) : Bool := (decide (0 ≤ a.ent) && decide (a.ent ≤ 65535)) && ((decide (0 ≤ a.par) && decide (a.par ≤ 63)) && ((decide (0 ≤ a.car) && decide (a.car ≤ (n : Int) - 1)) && (decide (0 ≤ a.sent) && decide (a.sent ≤ 3652058))))
def chkA (n : Nat) (a : At) : Int := if headB n a = true then chkF n a.own else 5
def chkAs (n : Nat) : List At → Int
  | [] => 0
  | a :: l => if chkA n a = 0 then chkAs n l else chkA n a
def chkL (n : Nat) (l : List At) : Int := if 65536 < l.length then 2 else chkAs n l
def AtOk (n : Nat) (a : At) : Prop := chkA n a = 0
def AtsOk (n : Nat) (l : List At) : Prop := ∀ a ∈ l, AtOk n a

theorem chkF_in (n : Nat) (l : List Ret) : chkF n l = 0 ∨ chkF n l = 2 ∨ chkF n l = 5 := by
  unfold chkF
  split
  · exact .inr (.inl rfl)
  · split
    · exact .inl rfl
    · exact .inr (.inr rfl)
theorem chkA_in (n : Nat) (a : At) : chkA n a = 0 ∨ chkA n a = 2 ∨ chkA n a = 5 := by
  unfold chkA
  split
  · exact chkF_in n a.own
  · exact .inr (.inr rfl)
theorem headB_iff {n : Nat} {a : At} : headB n a = true ↔ (0 ≤ a.ent ∧ a.ent ≤ 65535) ∧ (0 ≤ a.par ∧ a.par ≤ 63) ∧ (0 ≤ a.car ∧ a.car ≤ (n : Int) - 1) ∧ (0 ≤ a.sent ∧ a.sent ≤ 3652058) := by
  simp [headB]
theorem AtOk.head {n : Nat} {a : At} (h : AtOk n a) : (0 ≤ a.ent ∧ a.ent ≤ 65535) ∧ (0 ≤ a.par ∧ a.par ≤ 63) ∧ (0 ≤ a.car ∧ a.car ≤ (n : Int) - 1) ∧ (0 ≤ a.sent ∧ a.sent ≤ 3652058) := by
  by_cases hb : headB n a = true
  · exact headB_iff.1 hb
  · unfold AtOk chkA at h
    rw [if_neg hb] at h
    omega
theorem AtOk.rets {n : Nat} {a : At} (h : AtOk n a) : RetsOk n a.own ∧ a.own.length ≤ 32 := by
  have hb : headB n a = true := headB_iff.2 h.head
  unfold AtOk chkA at h
  rw [if_pos hb] at h
  exact chkF_zero h
theorem AtOk.of {n : Nat} {a : At} (h : (0 ≤ a.ent ∧ a.ent ≤ 65535) ∧ (0 ≤ a.par ∧ a.par ≤ 63) ∧ (0 ≤ a.car ∧ a.car ≤ (n : Int) - 1) ∧ (0 ≤ a.sent ∧ a.sent ≤ 3652058)) (hr : RetsOk n a.own) (hl : a.own.length ≤ 32) : AtOk n a := by
  unfold AtOk chkA
  rw [if_pos (headB_iff.2 h)]
  exact chkF_rets hr hl
theorem chkAs_bad {n : Nat} : ∀ {l : List At} {k : Nat} (hk : k < l.length), (∀ j (hj : j < l.length), j < k → chkA n l[j] = 0) → chkA n l[k] ≠ 0 → chkAs n l = chkA n l[k]
  | [], _, hk, _, _ => absurd hk (Nat.not_lt_zero _)
  | a :: l, 0, _, _, h => by
    have h' : chkA n a ≠ 0 := h
    unfold chkAs
    rw [if_neg h']
    rfl
  | a :: l, k + 1, hk, h, hb => by
    have h0 : chkA n a = 0 := h 0 (by simp) (by omega)
    unfold chkAs
    rw [if_pos h0]
    exact chkAs_bad (l := l) (k := k) (by simpa using hk) (fun j hj hjk => h (j + 1) (by simpa using hj) (by omega)) hb
theorem chkAs_ok {n : Nat} : ∀ {l : List At}, (∀ j (hj : j < l.length), chkA n l[j] = 0) → chkAs n l = 0
  | [], _ => rfl
  | a :: l, h => by
    have h0 : chkA n a = 0 := h 0 (by simp)
    unfold chkAs
    rw [if_pos h0]
    exact chkAs_ok (l := l) (fun j hj => h (j + 1) (by simpa using hj))
theorem AtsOk.chk {n : Nat} {l : List At} (h : AtsOk n l) (hl : l.length ≤ 65536) : chkL n l = 0 := by
  unfold chkL
  rw [if_neg (by omega)]
  exact chkAs_ok (fun j _ => h _ (List.getElem_mem _))

/-! ### the service -/
def matB (e p : Int) (a : At) : Bool := decide (a.ent = e) && decide (a.par = p)
/-- Day, days more, attempt. -/
structure Sv where
  day : Int
  ext : Int
  att : Int
def svOf (f : At → Int × Bool) (cs : List (Int × Int)) (a : At) (i : Nat) : Sv := ⟨(f a).1, (cs.getD a.car.toNat (0, 0)).1, i⟩
def candTo (f : At → Int × Bool) (cs : List (Int × Int)) (e p : Int) (l : List At) : Nat → List Sv
  | 0 => []
  | k + 1 => match l[k]? with
    | none => candTo f cs e p l k
    | some a => if matB e p a = true ∧ (f a).2 = true then candTo f cs e p l k ++ [svOf f cs a k] else candTo f cs e p l k
def bstep (o : Option Sv) (y : Sv) : Option Sv := match o with
  | none => some y
  | some x => if y.day < x.day then some y else some x
def bestL (l : List Sv) : Option Sv := l.foldl bstep none
def ofF (f : At → Int × Bool) (cs : List (Int × Int)) (e p : Int) (l : List At) : Option Sv := bestL (candTo f cs e p l l.length)

theorem candTo_take {f : At → Int × Bool} {cs : List (Int × Int)} {e p : Int} {l : List At} {k : Nat} (hk : k < l.length) : candTo f cs e p l (k + 1) = if matB e p l[k] = true ∧ (f l[k]).2 = true then candTo f cs e p l k ++ [svOf f cs l[k] k] else candTo f cs e p l k := by
  show (match l[k]? with | none => _ | some a => _) = _
  rw [List.getElem?_eq_getElem hk]
theorem candTo_len (f : At → Int × Bool) (cs : List (Int × Int)) (e p : Int) (l : List At) : ∀ k, (candTo f cs e p l k).length ≤ k
  | 0 => Nat.le_refl _
  | k + 1 => by
    have ih := candTo_len f cs e p l k
    show (match l[k]? with | none => _ | some a => _ : List Sv).length ≤ _
    split
    · omega
    · split
      · rw [List.length_append, List.length_singleton]; omega
      · omega
theorem bestL_snoc (l : List Sv) (y : Sv) : bestL (l ++ [y]) = bstep (bestL l) y := by unfold bestL; rw [List.foldl_append]; rfl
theorem bestL_nil : bestL [] = none := rfl
theorem bestL_one (x : Sv) : bestL [x] = some x := rfl

/-- What the first of the least days is. -/
structure OfAt (f : At → Int × Bool) (cs : List (Int × Int)) (e p : Int) (l : List At) (k : Nat) (o : Option Sv) : Prop where
  no : o = none → ∀ i (hi : i < l.length), i < k → matB e p l[i] = true → (f l[i]).2 = false
  yes : ∀ s, o = some s → ∃ i, ∃ hi : i < l.length, i < k ∧ s = svOf f cs l[i] i ∧ matB e p l[i] = true ∧ (f l[i]).2 = true ∧ ∀ j (hj : j < l.length), j < k → matB e p l[j] = true → (f l[j]).2 = true → s.day ≤ (f l[j]).1 ∧ (j < i → s.day < (f l[j]).1)
theorem ofAt (f : At → Int × Bool) (cs : List (Int × Int)) (e p : Int) (l : List At) : ∀ k, k ≤ l.length → OfAt f cs e p l k (bestL (candTo f cs e p l k))
  | 0, _ => ⟨fun _ i _ h => absurd h (Nat.not_lt_zero _), fun s h => by cases h⟩
  | k + 1, hk => by
    have ih := ofAt f cs e p l k (by omega)
    have hkl : k < l.length := by omega
    rw [candTo_take hkl]
    by_cases hm : matB e p l[k] = true ∧ (f l[k]).2 = true
    · rw [if_pos hm, bestL_snoc]
      cases ho : bestL (candTo f cs e p l k) with
      | none =>
        rw [ho] at ih
        refine ⟨fun h => (by cases h), fun s hs => ?_⟩
        injection hs with hs
        subst hs
        refine ⟨k, hkl, by omega, rfl, hm.1, hm.2, fun j hj hjk hmj hfj => ?_⟩
        rcases Nat.lt_succ_iff_lt_or_eq.1 hjk with h | rfl
        · have := ih.no rfl j hj h hmj
          rw [this] at hfj
          cases hfj
        · exact ⟨Int.le_refl _, fun h => absurd h (Nat.lt_irrefl _)⟩
      | some x =>
        rw [ho] at ih
        obtain ⟨i, hi, hik, rfl, h1, h2, h3⟩ := ih.yes x rfl
        by_cases hlt : (svOf f cs l[k] k).day < (svOf f cs l[i] i).day
        · have e1 : bstep (some (svOf f cs l[i] i)) (svOf f cs l[k] k) = some (svOf f cs l[k] k) := if_pos hlt
          rw [e1]
          refine ⟨fun h => (by cases h), fun s hs => ?_⟩
          injection hs with hs
          subst hs
          refine ⟨k, hkl, by omega, rfl, hm.1, hm.2, fun j hj hjk hmj hfj => ?_⟩
          rcases Nat.lt_succ_iff_lt_or_eq.1 hjk with h | rfl
          · have := (h3 j hj h hmj hfj).1
            exact ⟨by omega, fun _ => by omega⟩
          · exact ⟨Int.le_refl _, fun h => absurd h (Nat.lt_irrefl _)⟩
        · have e1 : bstep (some (svOf f cs l[i] i)) (svOf f cs l[k] k) = some (svOf f cs l[i] i) := if_neg hlt
          rw [e1]
          refine ⟨fun h => (by cases h), fun s hs => ?_⟩
          injection hs with hs
          subst hs
          refine ⟨i, hi, by omega, rfl, h1, h2, fun j hj hjk hmj hfj => ?_⟩
          rcases Nat.lt_succ_iff_lt_or_eq.1 hjk with h | rfl
          · exact h3 j hj h hmj hfj
          · have hd : (svOf f cs l[j] j).day = (f l[j]).1 := rfl
            exact ⟨by omega, fun h => by omega⟩
    · rw [if_neg hm]
      refine ⟨fun h i hi hik hmi => ?_, fun s hs => ?_⟩
      · rcases Nat.lt_succ_iff_lt_or_eq.1 hik with h' | rfl
        · exact ih.no h i hi h' hmi
        · cases hf : (f l[i]).2 with
          | false => rfl
          | true => exact absurd ⟨hmi, hf⟩ hm
      · obtain ⟨i, hi, hik, rfl, h1, h2, h3⟩ := ih.yes s hs
        refine ⟨i, hi, by omega, rfl, h1, h2, fun j hj hjk hmj hfj => ?_⟩
        rcases Nat.lt_succ_iff_lt_or_eq.1 hjk with h' | rfl
        · exact h3 j hj h' hmj hfj
        · exact absurd ⟨hmj, hfj⟩ hm

/-- What is found depends on the attempts alone. -/
theorem candTo_congr {f g : At → Int × Bool} {cs : List (Int × Int)} {e p : Int} {l m : List At} (h : ∀ i : Nat, (l[i]?).map (fun a => (matB e p a, f a, a.car)) = (m[i]?).map (fun a => (matB e p a, g a, a.car))) : ∀ k, candTo f cs e p l k = candTo g cs e p m k
  | 0 => rfl
  | k + 1 => by
    have ih := candTo_congr (cs := cs) h k
    have hk := h k
    unfold candTo
    cases hl : l[k]? with
    | none =>
      rw [hl] at hk
      cases hm : m[k]? with
      | none => exact ih
      | some b => rw [hm] at hk; cases hk
    | some a =>
      rw [hl] at hk
      cases hm : m[k]? with
      | none => rw [hm] at hk; cases hk
      | some b =>
        rw [hm] at hk
        simp only [Option.map_some, Option.some.injEq, Prod.mk.injEq] at hk
        obtain ⟨h1, h2, h3⟩ := hk
        simp only
        rw [ih, h1, h2]
        unfold svOf
        rw [h2, h3]

end Go.Proofs.Ytdhiefgbajogcaa

namespace Go.Proofs.Ytdhiefgbajogcaa

/-! ### one attempt more -/
theorem candTo_prefix {f : At → Int × Bool} {cs : List (Int × Int)} {e p : Int} (l m : List At) : ∀ k, k ≤ l.length → candTo f cs e p (l ++ m) k = candTo f cs e p l k
  | 0, _ => rfl
  | k + 1, h => by
    have hk : k < l.length := by omega
    have ih := candTo_prefix (f := f) (cs := cs) (e := e) (p := p) l m k (by omega)
    rw [candTo_take hk, candTo_take (by rw [List.length_append]; omega), List.getElem_append_left hk, ih]
theorem ofF_more (f : At → Int × Bool) (cs : List (Int × Int)) (e p : Int) (l : List At) (a : At) : ofF f cs e p (l ++ [a]) = if matB e p a = true ∧ (f a).2 = true then bstep (ofF f cs e p l) (svOf f cs a l.length) else ofF f cs e p l := by
  unfold ofF
  rw [show (l ++ [a]).length = l.length + 1 from by simp, candTo_take (by simp), candTo_prefix l [a] l.length (Nat.le_refl _)]
  have e1 : (l ++ [a])[l.length]'(by simp) = a := by simp
  rw [e1]
  split
  · rw [bestL_snoc]
  · rfl
/-- A further attempt makes no day later. -/
theorem ofF_later {f : At → Int × Bool} {cs : List (Int × Int)} {e p : Int} {l : List At} {a : At} {s : Sv} (h : ofF f cs e p l = some s) : ∃ s', ofF f cs e p (l ++ [a]) = some s' ∧ s'.day ≤ s.day := by
  rw [ofF_more, h]
  split
  · by_cases hlt : (svOf f cs a l.length).day < s.day
    · exact ⟨_, if_pos hlt, by omega⟩
    · exact ⟨_, if_neg hlt, Int.le_refl _⟩
  · exact ⟨s, rfl, Int.le_refl _⟩
theorem ofF_without {f : At → Int × Bool} {cs : List (Int × Int)} {e p : Int} {l : List At} {a : At} (h : (f a).2 = false) : ofF f cs e p (l ++ [a]) = ofF f cs e p l := by
  rw [ofF_more, if_neg]
  rintro ⟨-, h'⟩
  rw [h] at h'
  cases h'

/-! ### the attempts of one party alone -/
def reIdx (idx : List Int) (s : Sv) : Sv := ⟨s.day, s.ext, idx.getD s.att.toNat 0⟩
structure SubAt (e p : Int) (l : List At) (k : Nat) (own : List At) (idx : List Int) : Prop where
  len : idx.length = own.length
  le : own.length ≤ k
  mat : ∀ a ∈ own, matB e p a = true
  sub : ∀ a ∈ own, a ∈ l
  lt : ∀ x ∈ idx, 0 ≤ x ∧ x < k
  cand : ∀ f cs, candTo f cs e p l k = (candTo f cs e p own own.length).map (reIdx idx)
theorem SubAt.start (e p : Int) (l : List At) : SubAt e p l 0 [] [] := ⟨rfl, Nat.le_refl _, (fun _ h => by cases h), (fun _ h => by cases h), (fun _ h => by cases h), fun _ _ => rfl⟩
theorem SubAt.skip {e p : Int} {l : List At} {k : Nat} {own : List At} {idx : List Int} (h : SubAt e p l k own idx) (hk : k < l.length) (hm : matB e p l[k] = false) : SubAt e p l (k + 1) own idx := by
  refine ⟨h.len, by have := h.le; omega, h.mat, h.sub, fun x hx => by have := h.lt x hx; omega, fun f cs => ?_⟩
  rw [candTo_take hk, if_neg (by rw [hm]; simp), h.cand]
theorem candTo_att (f : At → Int × Bool) (cs : List (Int × Int)) (e p : Int) (l : List At) : ∀ k, ∀ s ∈ candTo f cs e p l k, 0 ≤ s.att ∧ s.att < k
  | 0, s, h => by cases h
  | k + 1, s, h => by
    have ih := candTo_att f cs e p l k
    unfold candTo at h
    split at h
    · have := ih s h; omega
    · split at h
      · rcases List.mem_append.1 h with h1 | h1
        · have := ih s h1; omega
        · simp at h1
          subst h1
          have e1 : ∀ a, (svOf f cs a k).att = (k : Int) := fun _ => rfl
          rw [e1]
          omega
      · have := ih s h; omega
theorem SubAt.take {e p : Int} {l : List At} {k : Nat} {own : List At} {idx : List Int} (h : SubAt e p l k own idx) (hk : k < l.length) (hm : matB e p l[k] = true) : SubAt e p l (k + 1) (own ++ [l[k]]) (idx ++ [(k : Int)]) := by
  refine ⟨by simp [h.len], by have := h.le; simp; omega, fun a ha => ?_, fun a ha => ?_, fun x hx => ?_, fun f cs => ?_⟩
  · rcases List.mem_append.1 ha with h1 | h1
    · exact h.mat a h1
    · simp at h1; subst h1; exact hm
  · rcases List.mem_append.1 ha with h1 | h1
    · exact h.sub a h1
    · simp at h1; subst h1; exact List.getElem_mem _
  · rcases List.mem_append.1 hx with h1 | h1
    · have := h.lt x h1; omega
    · simp at h1; omega
  · have hmap : (candTo f cs e p own own.length).map (reIdx (idx ++ [(k : Int)])) = (candTo f cs e p own own.length).map (reIdx idx) := by
      refine List.map_congr_left (fun s hs => ?_)
      have := candTo_att f cs e p own own.length s hs
      unfold reIdx
      rw [List.getD_eq_getElem?_getD, List.getD_eq_getElem?_getD, List.getElem?_append_left (by rw [h.len]; omega)]
    rw [candTo_take hk, h.cand, show (own ++ [l[k]]).length = own.length + 1 from by simp, candTo_take (by simp), candTo_prefix own [l[k]] own.length (Nat.le_refl _)]
    have e1 : (own ++ [l[k]])[own.length]'(by simp) = l[k] := by simp
    rw [e1]
    by_cases hs : matB e p l[k] = true ∧ (f l[k]).2 = true
    · rw [if_pos hs, if_pos hs, List.map_append, hmap]
      congr 1
      simp only [List.map_cons, List.map_nil]
      congr 1
      unfold reIdx svOf
      simp only
      congr 1
      rw [show ((own.length : Int)).toNat = own.length from by omega, ← h.len]
      simp
    · rw [if_neg hs, if_neg hs, hmap]
theorem bestL_map {g : Sv → Sv} (hg : ∀ s, (g s).day = s.day) : ∀ (l : List Sv) (o : Option Sv), (l.map g).foldl bstep (o.map g) = (l.foldl bstep o).map g
  | [], o => rfl
  | y :: l, o => by
    have e : bstep (o.map g) (g y) = (bstep o y).map g := by
      cases o with
      | none => rfl
      | some x =>
        show (if (g y).day < (g x).day then some (g y) else some (g x)) = (if y.day < x.day then some y else some x).map g
        rw [hg, hg]
        split <;> rfl
    show (l.map g).foldl bstep (bstep (o.map g) (g y)) = (l.foldl bstep (bstep o y)).map g
    rw [e]
    exact bestL_map hg l _
theorem SubAt.same {e p : Int} {l own : List At} {idx : List Int} (h : SubAt e p l l.length own idx) (f : At → Int × Bool) (cs : List (Int × Int)) : ofF f cs e p l = (ofF f cs e p own).map (reIdx idx) := by
  unfold ofF bestL
  rw [h.cand f cs]
  exact bestL_map (g := reIdx idx) (fun _ => rfl) _ none
/-- The attempt that is found is one. -/
theorem ofF_in {f : At → Int × Bool} {cs : List (Int × Int)} {e p : Int} {l : List At} {s : Sv} (h : ofF f cs e p l = some s) : ∃ i, ∃ hi : i < l.length, s = svOf f cs l[i] i ∧ matB e p l[i] = true ∧ (f l[i]).2 = true := by
  obtain ⟨i, hi, -, h1, h2, h3, -⟩ := (ofAt f cs e p l l.length (Nat.le_refl _)).yes s h
  exact ⟨i, hi, h1, h2, h3⟩
theorem ofF_iff (f : At → Int × Bool) (cs : List (Int × Int)) (e p : Int) (l : List At) : (ofF f cs e p l).isSome = l.any (fun a => matB e p a && (f a).2) := by
  rw [Bool.eq_iff_iff, List.any_eq_true]
  constructor
  · intro h
    cases ho : ofF f cs e p l with
    | none => rw [ho] at h; cases h
    | some s =>
      obtain ⟨i, hi, -, h2, h3⟩ := ofF_in ho
      exact ⟨l[i], List.getElem_mem _, by rw [h2, h3]; rfl⟩
  · rintro ⟨a, ha, h⟩
    simp at h
    obtain ⟨i, hi, rfl⟩ := List.mem_iff_getElem.1 ha
    cases ho : ofF f cs e p l with
    | none =>
      have := (ofAt f cs e p l l.length (Nat.le_refl _)).no ho i hi hi h.1
      rw [h.2] at this
      cases this
    | some s => rfl

end Go.Proofs.Ytdhiefgbajogcaa
