/-
  The first of the least services: the program's best, with its comparison.
-/
import Derived.Test.YtdhiefgbajogcaaSvH
namespace Go.Proofs.Ytdhiefgbajogcaa
open Go.RowKit

/-! ### slices of services -/
def svRow (x : Sv) : List Value := [.int .i64 x.day, .int .i64 x.ext, .int .i64 x.att]
def svCells (l : List Sv) : List Value := (l.map svRow).flatten
theorem svRow_len (l : List Sv) : ∀ r ∈ l.map svRow, r.length = 3 := by
  intro r hr
  obtain ⟨x, -, rfl⟩ := List.mem_map.1 hr
  rfl
theorem svCells_len (l : List Sv) : (svCells l).length = l.length * 3 := by
  rw [svCells, flat_len 3 _ (svRow_len l), List.length_map]
theorem svCells_get (l : List Sv) (i k : Nat) (hi : i < l.length) (hk : k < 3) : (svCells l)[i * 3 + k]? = (svRow l[i])[k]? := by
  rw [svCells, flat_get 3 _ i k (by simpa using hi) (svRow_len l) hk, List.getElem_map]
theorem svCells_snoc (l : List Sv) (x : Sv) : svCells (l ++ [x]) = svCells l ++ svRow x := by simp [svCells]
def IsSvs (w : World) (v : Value) (l : List Sv) : Prop := Rd w v 3 l.length (svCells l)
theorem IsSvs.below {w w' : World} {v : Value} {l : List Sv} (h : IsSvs w v l) (hb : Below w.heap.size w w') : IsSvs w' v l := Rd.below h hb
theorem IsSvs.at {w : World} {v : Value} {l : List Sv} (h : IsSvs w v l) {k : Nat} (hk : k < l.length) :
    ∃ b off cap, v = .slice (some ⟨b, off, none⟩) l.length cap ∧ l.length ≤ cap ∧ b < w.heap.size ∧ w.cell? ⟨b, off + k * 3, none⟩ = some (.int .i64 l[k].day) ∧ w.cell? ⟨b, off + k * 3 + 1, none⟩ = some (.int .i64 l[k].ext) ∧
      w.cell? ⟨b, off + k * 3 + 2, none⟩ = some (.int .i64 l[k].att) := by
  obtain ⟨h1, h2, a, cap, rfl, hn, hc⟩ := h
  obtain ⟨b, off, rfl, c0⟩ := hc (k * 3 + 0) _ (by rw [svCells_get l k 0 hk (by omega)]; rfl)
  obtain ⟨_, _, e, c1⟩ := hc (k * 3 + 1) _ (by rw [svCells_get l k 1 hk (by omega)]; rfl)
  cases e
  obtain ⟨_, _, e, c2⟩ := hc (k * 3 + 2) _ (by rw [svCells_get l k 2 hk (by omega)]; rfl)
  cases e
  exact ⟨b, off, cap, rfl, hn, World.block_lt_of_cell? _ _ c0, c0, c1, c2⟩
theorem infoSv : (Try.prog.info? 48).map (fun i => (i.zero, i.size, i.bytes)) = some (some (.agg #[.int .i64 0, .int .i64 0, .int .i64 0]), 3, 24) := by kernel_rfl

/-! ### the comparison -/
def cmpF (x y : Int) : Int := if x < y then -1 else if y < x then 1 else 0
theorem nan_any (x : Int) (w : World) : Calls Try.prog 68 #[.int .i64 x] w fun e w' => e = .returned (.bool false) ∧ w = w' := by
  go_enter Try.func68, Try.ntmps68
  go_wp2
  go_ret
  exact ⟨by simp, rfl⟩
theorem cmp_any (x y : Int) (w : World) : Calls Try.prog 45 #[.int .i64 x, .int .i64 y] w fun e w' => e = .returned (.int .i64 (cmpF x y)) ∧ w = w' := by
  have HN := Lib.hid nan_any
  by_cases h : x < y
  · have HR : Hid (cmpF x y = -1) := if_pos h
    go_enter Try.func45, Try.ntmps45
    go_wp2_with (go_at_call 68; refine (HN.out _ _).mono ?_; rintro e w' ⟨rfl, rfl⟩)
    go_ret
    exact ⟨ret_int HR.out.symm, rfl⟩
  · by_cases h2 : y < x
    · have HR : Hid (cmpF x y = 1) := by show _ = _; unfold cmpF; rw [if_neg h, if_pos h2]
      go_enter Try.func45, Try.ntmps45
      go_wp2_with (go_at_call 68; refine (HN.out _ _).mono ?_; rintro e w' ⟨rfl, rfl⟩)
      go_ret
      exact ⟨ret_int HR.out.symm, rfl⟩
    · have HR : Hid (cmpF x y = 0) := by show _ = _; unfold cmpF; rw [if_neg h, if_neg h2]
      go_enter Try.func45, Try.ntmps45
      go_wp2_with (go_at_call 68; refine (HN.out _ _).mono ?_; rintro e w' ⟨rfl, rfl⟩)
      go_ret
      exact ⟨ret_int HR.out.symm, rfl⟩
theorem ofCmp_any (a b : Sv) (w : World) : Calls Try.prog 44 #[.agg #[.int .i64 a.day, .int .i64 a.ext, .int .i64 a.att], .agg #[.int .i64 b.day, .int .i64 b.ext, .int .i64 b.att]] w fun e w' => e = .returned (.int .i64 (cmpF a.day b.day)) ∧ Below w.heap.size w w' := by
  obtain ⟨ad, ae, aa⟩ := a
  obtain ⟨bd, be, ba⟩ := b
  have HC := Lib.hid (cmp_any ad bd)
  have HB : Hid (Below w.heap.size w ((w.alloc (.cells #[.int .i64 ad, .int .i64 ae, .int .i64 aa] 48)).alloc (.cells #[.int .i64 bd, .int .i64 be, .int .i64 ba] 48))) := ((Below.refl _ _).alloc (Nat.le_refl _) _).alloc (by simp) _
  show Calls Try.prog 44 #[.agg #[.int .i64 ad, .int .i64 ae, .int .i64 aa], .agg #[.int .i64 bd, .int .i64 be, .int .i64 ba]] w _
  go_enter Try.func44, Try.ntmps44
  go_wp2_with fail
  refine (HC.out _).mono ?_
  rintro e w' ⟨rfl, rfl⟩
  go_wp2_with fail
  go_ret
  exact ⟨rfl, HB.out⟩

end Go.Proofs.Ytdhiefgbajogcaa
