/-
  The record of branches in plain functions: ancestors decrease; a fork is one deeper than its branch. No program in sight.
-/
import Derived.Test.YtgfnelpfoegdaaaForkI
namespace Go.Proofs.Ytgfnelpfoegdaaa

theorem chainZ_head {l : List Br} {q : Int} {h : Nat} {t : List Nat} (e : chainZ l q = h :: t) : (h : Int) = q := by
  unfold chainZ at e
  by_cases h0 : q < 0
  · rw [if_pos h0] at e; cases e
  · rw [if_neg h0] at e
    unfold chain at e
    cases hx : l[q.toNat]? with
    | none => rw [hx] at e; cases e
    | some x =>
      rw [hx] at e
      simp only [List.cons.injEq] at e
      omega

theorem chainZ_dec {l : List Br} {b : Int} (hd : DecPar l b) (i : Nat) (h : i + 1 < (chainZ l b).length) : (chainZ l b)[i + 1] < (chainZ l b)[i] := by
  have hsplit : (chainZ l b).take i ++ (chainZ l b)[i] :: (chainZ l b).drop (i + 1) = chainZ l b := by
    rw [List.getElem_cons_drop, List.take_append_drop]
  obtain ⟨y, -, -, hy, hpost⟩ := chain_split _ b _ _ hd hsplit
  have hh : (chainZ l b).drop (i + 1) = (chainZ l b)[i + 1] :: (chainZ l b).drop (i + 1 + 1) := (List.getElem_cons_drop h).symm
  rw [hpost] at hh
  have := chainZ_head hh
  omega

theorem fork_depth {l : List Br} {k : Nat} {x : Br} (hx : l[k]? = some x) : depth (l ++ [(⟨k, 3, sz x, [], true⟩ : Br)]) l.length = depth l k + 1 := by
  have hk := (List.getElem?_eq_some_iff.1 hx).1
  have hc : chain (l ++ [(⟨(k : Int), 3, sz x, [], true⟩ : Br)]) l.length = l.length :: chain l k := by
    rw [chain_some (x := ⟨(k : Int), 3, sz x, [], true⟩) (by simp) (by simp only; omega)]
    simp only
    rw [chainZ_nat]
    congr 1
    exact chain_congr k (fun j hj => by rw [List.getElem?_append_left (by omega)])
  have hne : chain l k ≠ [] := by unfold chain; rw [hx]; simp
  have hpos : 0 < (chain l k).length := List.length_pos_iff.2 hne
  unfold depth
  rw [hc, List.length_cons]
  omega

theorem chainZ_pos {l : List Br} {k : Nat} (hk : k < l.length) : 0 < (chainZ l k).length := by
  rw [chainZ_nat]
  have hne : chain l k ≠ [] := by unfold chain; rw [List.getElem?_eq_getElem hk]; simp
  exact List.length_pos_iff.2 hne

end Go.Proofs.Ytgfnelpfoegdaaa
