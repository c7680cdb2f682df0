/-
  What is allowed is there, and so the day of service (plain). No program in sight.
-/
import Derived.Test.YtdhiefgbajogcaaRtI
import Derived.Test.YtdhiefgbajogcaaRtQ
namespace Go.Proofs.Ytdhiefgbajogcaa

theorem seg_exists (l : List Ret) (sent : Int) : ∃ ds, SegPts l sent ds := by
  have h : DyAt sent (cands l) (sent :: 3652059 :: (cands l).filter (fun x => decide (sent < x) && decide (x ≤ 3652058))) := fun x => by
    simp only [List.mem_cons, List.mem_filter, Bool.and_eq_true, decide_eq_true_eq]
    constructor
    · rintro (h | h | ⟨h1, h2, h3⟩)
      · exact .inl h
      · exact .inr (.inl h)
      · exact .inr (.inr ⟨h2, h3, h1⟩)
    · rintro (h | h | ⟨h1, h2, h3⟩)
      · exact .inl h
      · exact .inr (.inl h)
      · exact .inr (.inr ⟨h3, h1, h2⟩)
  have hp := List.mergeSort_perm (sent :: 3652059 :: (cands l).filter (fun x => decide (sent < x) && decide (x ≤ 3652058))) (fun a b => decide (a ≤ b))
  have hs := List.pairwise_mergeSort (le := fun a b : Int => decide (a ≤ b)) (fun a b c h1 h2 => by simp at *; omega) (fun a b => by simp; omega) (sent :: 3652059 :: (cands l).filter (fun x => decide (sent < x) && decide (x ≤ 3652058)))
  exact ⟨_, h.seg hp (hs.imp (fun h => by simpa using h))⟩
theorem least_exists (l : List Ret) (cs : List (Int × Int)) (ds : List Int) : ∀ i, i ≤ ds.length → ∃ t, LeastAt l cs ds i t
  | 0, _ => ⟨_, LeastAt.start l cs ds⟩
  | i + 1, h => by
    obtain ⟨t, ht⟩ := least_exists l cs ds i (by omega)
    by_cases hlt : excF l cs (ds[i]'(by omega)) < t
    · exact ⟨_, ht.less (by omega) hlt⟩
    · exact ⟨_, ht.same (by omega) (by omega)⟩
theorem pick_exists {l : List Ret} {cs : List (Int × Int)} {sent : Int} {ds : List Int} (t : Int) (hseg : SegPts l sent ds) (hs0 : 0 ≤ sent) (hs : sent ≤ 3652058) : ∀ i, i + 1 ≤ ds.length → ∃ out, PickAt l cs ds t i out
  | 0, _ => ⟨_, PickAt.start l cs ds t⟩
  | i + 1, h => by
    obtain ⟨out, ho⟩ := pick_exists (cs := cs) t hseg hs0 hs i (by omega)
    by_cases he : excF l cs (ds[i]'(by omega)) = t
    · exact ⟨_, ho.take hseg hs0 hs (by omega) he⟩
    · exact ⟨_, ho.skip (by omega) he⟩
theorem alw_exists (l : List Ret) (cs : List (Int × Int)) {sent : Int} (hs0 : 0 ≤ sent) (hs : sent ≤ 3652058) : ∃ out nv, Alw l cs sent out nv := by
  obtain ⟨ds, hseg⟩ := seg_exists l sent
  obtain ⟨hl, -⟩ := hseg.last hs
  obtain ⟨t, ht⟩ := least_exists l cs ds (ds.length - 1) (by omega)
  obtain ⟨out, ho⟩ := pick_exists (cs := cs) t hseg hs0 hs (ds.length - 1) (by omega)
  exact ⟨_, _, ho.done ht (by omega) hseg hs0 hs⟩

/-- The day of service by some returns. -/
def Svd (l : List Ret) (cs : List (Int × Int)) (sent : Int) (r : Int × Bool) : Prop := ∃ out nv, Alw l cs sent out nv ∧ r = servedF out nv
theorem Svd.eq {l m : List Ret} {cs : List (Int × Int)} {sent : Int} {r r' : Int × Bool} (h : Svd l cs sent r) (h' : Svd m cs sent r') (he : ∀ p, Poss sent p → excF l cs p = excF m cs p) : r = r' := by
  obtain ⟨o, n, h1, rfl⟩ := h
  obtain ⟨o', n', h2, rfl⟩ := h'
  obtain ⟨rfl, rfl⟩ := h1.eq h2 he
  rfl
theorem svd_exists (l : List Ret) (cs : List (Int × Int)) {sent : Int} (hs0 : 0 ≤ sent) (hs : sent ≤ 3652058) : ∃ r, Svd l cs sent r := by
  obtain ⟨o, n, h⟩ := alw_exists l cs hs0 hs
  exact ⟨_, o, n, h, rfl⟩

end Go.Proofs.Ytdhiefgbajogcaa
