/-
  IndexFunc and find at papers, for a function that only reads.
-/
import Derived.Test.YtbiedadgejgnoaaRtX
namespace Go.Proofs.Ytbiedadgejgnoaa
open Go.RowKit

/-- The first index for which p is true, or -1. -/
def idxF {α : Type} (p : α → Bool) (l : List α) : Int := match l.findIdx? p with
  | none => -1
  | some i => (i : Int)
theorem idxF_here {α : Type} {p : α → Bool} {l : List α} {k : Nat} (hk : k < l.length) (hb : ∀ j (h : j < l.length), j < k → p l[j] = false) (hp : p l[k] = true) : idxF p l = (k : Int) := by
  have h : l.findIdx? p = some k := List.findIdx?_eq_some_iff_getElem.2 ⟨hk, hp, fun j hj => by rw [hb j (by omega) hj]; decide⟩
  unfold idxF
  rw [h]
theorem idxF_none {α : Type} {p : α → Bool} {l : List α} (hb : ∀ j (h : j < l.length), p l[j] = false) : idxF p l = -1 := by
  have h : l.findIdx? p = none := by
    rw [List.findIdx?_eq_none_iff]
    intro x hx
    obtain ⟨i, hi, rfl⟩ := List.mem_iff_getElem.1 hx
    exact hb i hi
  unfold idxF
  rw [h]

/-- The function can be entered by its number. -/
def CanCall (K : Nat) : Prop := ∀ (args : Array Value) (W : World), Sem.run Try.prog (callFunc K args) W = .ok (.enter K args) W

set_option maxHeartbeats 2000000 in
set_option maxRecDepth 100000 in
theorem idxPaper (l : List Ret) (p : Ret → Bool) (K : Nat) (caps : Array Value) (v : Value) (w : World) (hx : IsRts w v l) (hK : CanCall K)
    (hf : ∀ (i : Nat) (h : i < l.length) (W : World), Below w.heap.size w W → Calls Try.prog K (#[.agg (litRt l[i])] ++ caps) W fun e w' => e = .returned (.bool (p l[i])) ∧ Below W.heap.size W w') :
    Calls Try.prog 66 #[v, .func (.func K) #[] caps] w fun e w' => e = .returned (.int .i64 (idxF p l)) ∧ Below w.heap.size w w' := by
  have HX := Lib.hid hx
  have HFN := Lib.hid hf
  obtain ⟨a, c, rfl, hlm, -⟩ := hx.open
  unfold maxLen at hlm
  obtain ⟨R, hR⟩ : ∃ R, idxF p l = R := ⟨_, rfl⟩
  have HRH : Hid (∀ k (hk : k < l.length), (∀ j (h : j < l.length), j < k → p l[j] = false) → p l[k] = true → R = (k : Int)) := fun k hk h1 h2 => by rw [← hR]; exact idxF_here hk h1 h2
  have HRN : Hid ((∀ j (h : j < l.length), p l[j] = false) → R = -1) := fun h1 => by rw [← hR]; exact idxF_none h1
  rw [hR]
  have HK := Lib.hid hK
  clear hx hf hR hK
  go_enter Try.func66, Try.ntmps66
  go_wp2_with fail
  go_loopw [8] (fun i wr => ∃ k : Nat, i = .int .i64 k ∧ k ≤ l.length ∧ Hid (∀ j (h : j < l.length), j < k → p l[j] = false) ∧ Hid (Below w.heap.size w wr)) (fun i _ => l.length - (intOf i).toNat)
  case atStart => exact ⟨0, rfl, Nat.zero_le _, fun j _ h => absurd h (Nat.not_lt_zero _), Lib.hid (Below.refl _ _)⟩
  case round =>
    obtain ⟨k, rfl, hk, HPR, HB⟩ := hrel
    by_cases hkl : k < l.length
    · have ek : IntKind.i64.wrap ((k : Int) + 1) = ((k + 1 : Nat) : Int) := by rw [IntKind.wrap_i64]; omega
      obtain ⟨b1, o1, q1, e1, -, c0, c1', c2, c3⟩ := (HX.out.below HB.out).at hkl
      simp only [Value.slice.injEq, true_and] at e1
      obtain ⟨rfl, -⟩ := e1
      have hkI : (k : Int) < (l.length : Int) := by omega
      have HC := Lib.hid (HFN.out k hkl wr HB.out)
      have HRK := Lib.hid (HRH.out k hkl HPR.out)
      have HPN : Hid (p l[k] = false → ∀ j (h : j < l.length), j < k + 1 → p l[j] = false) := fun h j hj hjk => by
        rcases Nat.lt_succ_iff_lt_or_eq.1 hjk with g | rfl
        · exact HPR.out j hj g
        · exact h
      obtain ⟨pb, hpb⟩ : ∃ b, p l[k] = b := ⟨_, rfl⟩
      rw [hpb] at HC HRK HPN
      clear hpb
      generalize l[k] = s at *
      obtain ⟨s0, s1, s2, s3⟩ := s
      simp only at c0 c1' c2 c3
      go_wp2_with fail
      rw [HK.out, Oper.upon_enter]
      refine HC.out.mono ?_
      rintro e w3 ⟨rfl, hb3⟩
      have HB3 := Lib.hid (Below.to HB.out hb3 HB.out.size)
      clear hb3 HC
      cases pb with
      | true =>
        have HR9 := Lib.hid (HRK.out rfl)
        clear HRK HPN
        go_wp2_with fail
        go_ret
        exact ⟨ret_int HR9.out.symm, HB3.out⟩
      | false =>
        have HP9 := Lib.hid (HPN.out rfl)
        clear HRK HPN
        go_wp2_with fail
        go_roundw
        case rel => exact ⟨k + 1, by go_num, by omega, HP9, HB3⟩
        case measure => simp [intOf]; omega
    · have hkI : ¬ (k : Int) < (l.length : Int) := by omega
      have HR9 := Lib.hid (HRN.out (fun j hj => HPR.out j hj (by omega)))
      go_wp2_with fail
      go_ret
      exact ⟨ret_int HR9.out.symm, HB.out⟩

set_option maxRecDepth 100000 in
theorem findPaper (l : List Ret) (p : Ret → Bool) (K : Nat) (caps : Array Value) (v : Value) (w : World) (hx : IsRts w v l) (hK : CanCall K)
    (hf : ∀ (i : Nat) (h : i < l.length) (W : World), Below w.heap.size w W → Calls Try.prog K (#[.agg (litRt l[i])] ++ caps) W fun e w' => e = .returned (.bool (p l[i])) ∧ Below W.heap.size W w') :
    Calls Try.prog 41 #[v, .func (.func K) #[] caps] w fun e w' => e = .returned (.int .i64 (idxF p l)) ∧ Below w.heap.size w w' := by
  have HI := Lib.hid (idxPaper l p K caps v w hx hK hf)
  obtain ⟨a, c, rfl, -, -⟩ := hx.open
  clear hx hK hf
  go_enter Try.func41, Try.ntmps41
  go_wp2_with fail
  refine HI.out.mono ?_
  rintro e w3 ⟨rfl, hb3⟩
  have HB3 := Lib.hid hb3
  clear hb3
  go_wp2_with fail
  go_ret
  exact ⟨rfl, HB3.out⟩

set_option maxRecDepth 100000 in
theorem canCall50 : CanCall 42 := fun _ _ => rfl

end Go.Proofs.Ytbiedadgejgnoaa
