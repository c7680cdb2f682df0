/-
  The program's Merge: a sorted list of the spans, folded.
-/
import Derived.Test.YtkcmkpljpmfiaaaDoorSrt
namespace Go.Proofs.YtkcmkpljpmfiaaaDoor
open Go.RowKit

/-- One span more, the ones before being merged already (in reverse order: the last one first). -/
def mrgStep (s : Int × Int) : List (Int × Int) → List (Int × Int)
  | [] => [s]
  | p :: r => if s.1 ≤ p.2 + 1 then (p.1, max p.2 s.2) :: r else s :: p :: r

/-- The merged spans of a sorted list, last first. -/
def mrgRev : List (Int × Int) → List (Int × Int) → List (Int × Int)
  | acc, [] => acc
  | acc, s :: r => mrgRev (mrgStep s acc) r

def mrgF (l : List (Int × Int)) : List (Int × Int) := (mrgRev [] l).reverse

theorem mrgRev_append (acc l m : List (Int × Int)) : mrgRev acc (l ++ m) = mrgRev (mrgRev acc l) m := by
  induction l generalizing acc with
  | nil => rfl
  | cons s r ih => exact ih _

theorem mrg_take {l : List (Int × Int)} {k : Nat} (hk : k < l.length) : mrgRev [] (l.take (k + 1)) = mrgStep l[k] (mrgRev [] (l.take k)) := by
  rw [List.take_succ_eq_append_getElem hk, mrgRev_append]
  rfl

/-- All days of the list lie between -C and C. -/
def SpB (l : List (Int × Int)) : Prop := ∀ x ∈ l, -1000000000000 ≤ x.1 ∧ x.1 ≤ 1000000000000 ∧ -1000000000000 ≤ x.2 ∧ x.2 ≤ 1000000000000

theorem mrgStep_nil (s : Int × Int) : mrgStep s [] = [s] := rfl
theorem mrgStep_in {s p : Int × Int} {r : List (Int × Int)} (h : s.1 ≤ p.2 + 1) : mrgStep s (p :: r) = (p.1, max p.2 s.2) :: r := if_pos h
theorem mrgStep_out {s p : Int × Int} {r : List (Int × Int)} (h : ¬ s.1 ≤ p.2 + 1) : mrgStep s (p :: r) = s :: p :: r := if_neg h

theorem mrgStep_B {s : Int × Int} {acc : List (Int × Int)} (hs : -1000000000000 ≤ s.1 ∧ s.1 ≤ 1000000000000 ∧ -1000000000000 ≤ s.2 ∧ s.2 ≤ 1000000000000) (h : SpB acc) : SpB (mrgStep s acc) := by
  intro x hx
  cases acc with
  | nil => rw [mrgStep_nil] at hx; simp at hx; subst hx; exact hs
  | cons p r =>
    have hp := h p (by simp)
    by_cases hc : s.1 ≤ p.2 + 1
    · rw [mrgStep_in hc] at hx
      rcases List.mem_cons.1 hx with rfl | hx
      · simp only; omega
      · exact h x (by simp [hx])
    · rw [mrgStep_out hc] at hx
      rcases List.mem_cons.1 hx with rfl | hx
      · exact hs
      · exact h x hx

theorem spCells_single (x : Int × Int) : spCells [x] = spRow x := by simp [spCells]

theorem infoSp : (Tryd.prog.info? 36).map (fun i => (i.zero, i.size, i.bytes)) = some (some (.agg #[.int .i64 0, .int .i64 0]), 2, 16) := by kernel_rfl

def litSp (x : Int × Int) : Array Value := #[.int .i64 x.1, .int .i64 x.2]

set_option maxHeartbeats 4000000 in
set_option maxRecDepth 100000 in
theorem merge_any (l : List (Int × Int)) (v : Value) (w : World) (hx : IsSps w v l) (hl : l.length ≤ 100000) (hb : SpB l) :
    Calls Tryd.prog 13 #[v] w fun e w' => ∃ v', e = .returned v' ∧ ∃ l', (l'.Perm l ∧ l'.Pairwise (fun a b => a.1 ≤ b.1)) ∧ IsSps w' v' (mrgF l') ∧ Below w.heap.size w w' := by
  have HX := Lib.hid hx
  obtain ⟨a, cap, rfl, -, hcap, -⟩ := hx.open
  have HB := Lib.hid hb
  clear hx hb
  have hsz : (Tryd.prog.info? 36).map (·.size) = some 2 := by kernel_rfl
  have HSZ := Lib.hid hsz; clear hsz
  go_enter Tryd.func13, Tryd.ntmps13
  go_wp2_with (at_make; go_must (refine wpList_make_rd rfl _ _ 32 rfl w.heap.size 36 _ 2 16 Tryd.underlying32 infoSp _ _ l.length rfl rfl rfl rfl ?b0 ?b1 (Nat.le_refl _) ?_))
  case b0 => omega
  case b1 => unfold maxLen; omega
  intro w1 hown hg
  have hb1 : Below w.heap.size w w1 := (Below.refl _ _).grown hg (Nat.le_refl _) (fun k hk => by cases hk)
  have HO := Lib.hid hown
  have HX1 : Hid (Rd w1 (.slice a l.length cap) 2 l.length (spCells l)) := HX.out.below hb1
  have HB1 := Lib.hid hb1
  clear hg hown hb1
  go_wp2_with (refine wpList_copy_whole rfl (.tmp 11) (.tmp 12) 32 32 rfl 36 2 Tryd.underlying32 HSZ.out w.heap.size 36 w.heap.size l.length l.length _ rfl HO.out _ (spCells l) rfl HX1.out (spCells_one l) ?_)
  intro w2 hown2 hg2
  have HB2 := Lib.hid (HB1.out.grown hg2 HB1.out.size (fun k hk => by cases hk; exact Nat.le_refl _))
  have HO2 := Lib.hid hown2
  clear hown2 hg2 HO HX1 HB1
  go_wp2_with fail
  refine (sort_any w.heap.size 36 w.heap.size l.length l w2 HO2.out (by omega)).mono ?_
  rintro e w3 ⟨rfl, l', hp, hso, ho3, hg3⟩
  have HB3 := Lib.hid (HB2.out.grown hg3 HB2.out.size (fun k hk => by cases hk; exact Nat.le_refl _))
  have hll : l'.length = l.length := hp.length_eq
  have HR3 : Hid (IsSps w3 (.slice (some ⟨w.heap.size, 0, none⟩) l.length l.length) l') := IsSps.of_owns ho3
  have HPB : Hid (SpB l') := fun x hx => HB.out x (hp.mem_iff.1 hx)
  have HPS : Hid (l'.Perm l ∧ l'.Pairwise (fun a b => a.1 ≤ b.1)) := ⟨hp, hso⟩
  have hsz3 := HB3.out.size
  clear hp hso ho3 hg3 HO2 HB2 HX HB
  rw [← hll] at HR3 ⊢
  have hl' : l'.length ≤ 100000 := by omega
  clear hll hl hcap
  go_wp2_with fail
  go_loopw [4, 18] (fun a i wr => ∃ (k : Nat) (v4 : Value) (acc : List (Int × Int)), v4 = a ∧ i = .int .i64 k ∧ k ≤ l'.length ∧ acc.length ≤ k ∧ Hid (acc = mrgRev [] (l'.take k)) ∧ Hid (wr.ownsRow w3.heap.size 36 2 v4 acc.length (spCells acc.reverse)) ∧ Hid (SpB acc) ∧ w3.heap.size ≤ wr.heap.size ∧ Hid (Below w3.heap.size w3 wr)) (fun _ i _ => l'.length - (intOf i).toNat)
  case atStart => exact ⟨0, _, [], rfl, rfl, Nat.zero_le _, Nat.le_refl _, Lib.hid rfl, Lib.hid (World.ownsRow_nil _ _ _ _), Lib.hid (fun x hx => by cases hx), Nat.le_refl _, Lib.hid (Below.refl _ _)⟩
  case round =>
    obtain ⟨k, v4, acc, rfl, rfl, hk, hak, HAC, HOW, HAB, hszr, HBR⟩ := hrel
    by_cases hkl : k < l'.length
    · have HRW := HR3.out.below HBR.out
      obtain ⟨a5, c5, e5, -, -, hc5⟩ := HRW.open
      simp only [Value.slice.injEq] at e5
      obtain ⟨rfl, -, rfl⟩ := e5
      obtain ⟨b5, o5, e5, hlt5, c0, c1⟩ := hc5 k hkl
      simp only [Option.some.injEq, Addr.mk.injEq, and_true] at e5
      obtain ⟨rfl, rfl⟩ := e5
      have hsB := HPB.out l'[k] (List.getElem_mem hkl)
      have HN := mrg_take hkl
      rw [← HAC.out] at HN
      rw [Nat.zero_add] at c0 c1
      have hkl2 : (k : Int) < (l'.length : Int) := by omega
      clear hc5 HRW
      obtain ⟨sx, hsx⟩ : ∃ sx, l'[k] = sx := ⟨_, rfl⟩
      rw [hsx] at c0 c1 hsB HN
      obtain ⟨s1, s2⟩ := sx
      simp only at c0 c1 hsB
      obtain ⟨hs1a, hs1b, hs2a, hs2b⟩ := hsB
      have HNX : Hid (mrgRev [] (l'.take (k + 1)) = mrgStep (s1, s2) acc) := HN
      have HNB : Hid (SpB (mrgStep (s1, s2) acc)) := mrgStep_B ⟨hs1a, hs1b, hs2a, hs2b⟩ HAB.out
      clear hsx HN HAC
      obtain ⟨W1, hW1⟩ : ∃ W1, W1 = wr.alloc (.cells #[.int .i64 s1, .int .i64 s2] 36) := ⟨_, rfl⟩
      have hb1 : Below wr.heap.size wr W1 := by rw [hW1]; exact (Below.refl _ _).alloc (Nat.le_refl _) _
      have hcw : ∀ o, W1.cell? ⟨wr.heap.size, o, none⟩ = (#[.int .i64 s1, .int .i64 s2] : Array Value)[o]? := by rw [hW1]; exact cells_alloc wr _ _
      have d0 : W1.cell? ⟨wr.heap.size, 0, none⟩ = some (.int .i64 s1) := hcw 0
      have d1 : W1.cell? ⟨wr.heap.size, 1, none⟩ = some (.int .i64 s2) := hcw 1
      have HW1 := Lib.hid hW1
      have HO1 := Lib.hid (owns_below HOW.out hb1)
      have HBR1 := Lib.hid (Below.to HBR.out hb1 hszr)
      have hs1 := HBR1.out.size
      clear hcw hW1 hb1 HOW HBR
      cases acc with
      | nil =>
        obtain ⟨av, cv, rfl, -, -⟩ := owns_slice HO1.out
        rw [mrgStep_nil] at HNX HNB
        have HAC9 : Hid ([(s1, s2)] = mrgRev [] (l'.take (k + 1))) := HNX.out.symm
        simp only [List.length_nil] at HO1
        go_wp2_with fail
        rw [← HW1.out]
        go_quiet (fail)
        go_wp2_with (at_builtin; go_must (refine wpList_append_rd rfl _ _ 32 rfl w3.heap.size 36 _ 2 16 Tryd.underlying32 infoSp rfl (by decide) (.slice av 0 cv) 0 (spCells ([] : List (Int × Int)).reverse) rfl (owns_below HO1.out ?hb) _ 1 (spRow (s1, s2)) rfl (Rd.lit _ (litSp (s1, s2)) 36 2 1 rfl ?h1) (spCells_one [(s1, s2)]) ?b1 ?b2 ?b3 ?_))
        case hb => exact (below_drewN (Below.refl _ _) _).alloc (by simp) _
        case h1 => unfold maxLen; omega
        case b1 => simp at hak; unfold maxLen; omega
        case b2 => simp at hak; omega
        case b3 => simp; omega
        intro v9 w9 hv9 hg9
        have HB9 : Hid (Below w3.heap.size w3 w9) := by
          refine below_append (w := _) ?_ (owns_below HO1.out ?_) hg9 ?_
          rotate_left
          · exact (below_drewN (Below.refl _ _) _).alloc (by simp) _
          · simp; omega
          · have := HBR1.out
            refine Below.to this ?_ hs1
            exact (below_drewN (Below.refl _ _) _).alloc (by simp) _
        have HO9 : Hid (w9.ownsRow w3.heap.size 36 2 v9 ((s1, s2) :: []).length (spCells ((s1, s2) :: []).reverse)) := by
          show World.ownsRow _ _ _ _ _ _ _
          rw [List.reverse_cons, spCells_append, spCells_single]
          simpa using hv9
        have hs9 := HB9.out.size
        clear hv9 hg9
        go_wp2_with fail
        go_roundw
        case rel => exact ⟨k + 1, _, (s1, s2) :: [], rfl, by go_num, by omega, by simp only [List.length_cons] at hak ⊢; omega, HAC9, HO9, HNB, hs9, HB9⟩
        case measure => simp [intOf]; omega
      | cons p r =>
        obtain ⟨p1, p2⟩ := p
        have hpB := HAB.out (p1, p2) (by simp)
        simp only at hpB
        obtain ⟨-, -, hp2a, hp2b⟩ := hpB
        obtain ⟨gb, cv, hve, hgb1, hgb2, hcvn⟩ := owns_some HO1.out (by simp)
        subst hve
        have e1 : W1.cell? ⟨gb, r.length * 2 + 1, none⟩ = some (.int .i64 p2) := by
          have h := HO1.out.cellAt (r.length * 2 + 1) (by simp; omega)
          rw [h, List.reverse_cons, spCells_append, List.getElem?_append_right (by rw [spCells_len]; simp), spCells_len]
          simp [spCells, spRow]
        have f1 : W1.frozen? ⟨gb, r.length * 2 + 1, none⟩ = false := HO1.out.frozenAt _
        have hwp : IntKind.i64.wrap (p2 + 1) = p2 + 1 := by rw [IntKind.wrap_i64]; omega
        have hrl : r.length ≤ 100000 := by simp at hak; omega
        have hsub : IntKind.i64.wrap (((r.length + 1 : Nat) : Int) - 1) = (r.length : Int) := by rw [IntKind.wrap_i64]; omega
        by_cases hc : s1 ≤ p2 + 1
        · go_wp2_with fail
          rw [← HW1.out]
          go_quiet (fail)
          go_wp2_with fail
          rw [mrgStep_in hc] at HNX HNB
          have HAC9 : Hid ((p1, max p2 s2) :: r = mrgRev [] (l'.take (k + 1))) := HNX.out.symm
          have HST : Hid (∀ q, Below w3.heap.size w3 ((W1.drewN q).setCell ⟨gb, r.length * 2 + 1, none⟩ (.int .i64 (max p2 s2))) ∧ ((W1.drewN q).setCell ⟨gb, r.length * 2 + 1, none⟩ (.int .i64 (max p2 s2))).ownsRow w3.heap.size 36 2 (.slice (some ⟨gb, 0, none⟩) ((p1, max p2 s2) :: r).length cv) ((p1, max p2 s2) :: r).length (spCells ((p1, max p2 s2) :: r).reverse)) := fun q => by
            have hO := owns_below HO1.out (below_drewN (Below.refl W1.heap.size W1) q)
            have hst := hO.stored (r.length * 2 + 1) (.int .i64 (max p2 s2))
            refine ⟨(below_drewN HBR1.out q).setCell hgb1 _, ?_⟩
            have hset := spCells_set ((p1, p2) :: r).reverse r.length 1 (by simp) (by omega) (.int .i64 (max p2 s2)) (p1, max p2 s2) (by simp [spRow])
            rw [hset] at hst
            have hrev : ((p1, p2) :: r).reverse.set r.length (p1, max p2 s2) = ((p1, max p2 s2) :: r).reverse := by simp
            rw [hrev] at hst
            simpa using hst.1
          go_region
          all_goals
            have HO9 := Lib.hid (HST.out (nq + 1)).2
            have HB9 := Lib.hid (HST.out (nq + 1)).1
            have hs9 := HB9.out.size
            go_wp2_with fail
            go_roundw
            case rel => exact ⟨k + 1, _, (p1, max p2 s2) :: r, rfl, by go_num, by omega, by simp only [List.length_cons] at hak ⊢; omega, HAC9, HO9, HNB, hs9, HB9⟩
            case measure => simp [intOf]; omega
        · have hc2 : p2 + 1 < s1 := by omega
          rw [mrgStep_out hc] at HNX HNB
          have HAC9 : Hid ((s1, s2) :: (p1, p2) :: r = mrgRev [] (l'.take (k + 1))) := HNX.out.symm
          go_wp2_with fail
          rw [← HW1.out]
          go_quiet (fail)
          go_wp2_with (at_builtin; go_must (refine wpList_append_rd rfl _ _ 32 rfl w3.heap.size 36 _ 2 16 Tryd.underlying32 infoSp rfl (by decide) (.slice (some ⟨gb, 0, none⟩) (r.length + 1) cv) (r.length + 1) (spCells ((p1, p2) :: r).reverse) rfl (owns_below HO1.out ?hb) _ 1 (spRow (s1, s2)) rfl (Rd.lit _ (litSp (s1, s2)) 36 2 1 rfl ?h1) (spCells_one [(s1, s2)]) ?b1 ?b2 ?b3 ?_))
          case hb => exact (below_drewN (Below.refl _ _) _).alloc (by simp) _
          case h1 => unfold maxLen; omega
          case b1 => simp at hak; unfold maxLen; omega
          case b2 => simp at hak; omega
          case b3 => simp; omega
          intro v9 w9 hv9 hg9
          have HB9 : Hid (Below w3.heap.size w3 w9) := by
            refine below_append (w := _) ?_ (owns_below HO1.out ?_) hg9 ?_
            rotate_left
            · exact (below_drewN (Below.refl _ _) _).alloc (by simp) _
            · simp; omega
            · have := HBR1.out
              refine Below.to this ?_ hs1
              exact (below_drewN (Below.refl _ _) _).alloc (by simp) _
          have HO9 : Hid (w9.ownsRow w3.heap.size 36 2 v9 ((s1, s2) :: ((p1, p2) :: r)).length (spCells ((s1, s2) :: ((p1, p2) :: r)).reverse)) := by
            show World.ownsRow _ _ _ _ _ _ _
            rw [List.reverse_cons, spCells_append, spCells_single]
            simpa using hv9
          have hs9 := HB9.out.size
          clear hv9 hg9
          go_wp2_with fail
          go_roundw
          case rel => exact ⟨k + 1, _, (s1, s2) :: ((p1, p2) :: r), rfl, by go_num, by omega, by simp only [List.length_cons] at hak ⊢; omega, HAC9, HO9, HNB, hs9, HB9⟩
          case measure => simp [intOf]; omega
    · obtain rfl : k = l'.length := by omega
      have HR : Hid (IsSps wr v4 (mrgF l')) := by
        show IsSps _ _ _
        have h1 := HAC.out
        rw [List.take_length] at h1
        unfold mrgF
        rw [← h1]
        exact IsSps.of_owns HOW.out
      have HB9 := Lib.hid (Below.to HB3.out HBR.out hsz3)
      clear HAC HOW HBR
      go_wp2_with fail
      go_ret
      exact ⟨_, rfl, l', HPS.out, HR.out, HB9.out⟩

end Go.Proofs.YtkcmkpljpmfiaaaDoor
