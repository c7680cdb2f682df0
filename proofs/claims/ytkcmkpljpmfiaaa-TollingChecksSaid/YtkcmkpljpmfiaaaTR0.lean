/-
  The law TollingChecks: its walk.
-/
import Derived.Test.YtkcmkpljpmfiaaaChk
namespace Go.Proofs.Ytkcmkpljpmfiaaa
open Go.RowKit

def many (c : Int) : Nat → List (Int × Int)
  | 0 => []
  | k + 1 => many c k ++ [((k : Int), c)]
theorem many_len (c : Int) : ∀ k, (many c k).length = k
  | 0 => rfl
  | k + 1 => by simp [many, many_len c k]

set_option maxHeartbeats 4000000 in
set_option maxRecDepth 100000 in
theorem tollingChecks_any (l : List (Int × Int)) (v : Value) (n k : Int) (w : World) (hx : IsSps w v l) (hn : I64 n) (hk : I64 k) :
    Calls Try.prog 10 #[v, .int .i64 n, .int .i64 k] w fun e w' => e = .returned (.bool true) ∧ Below w.heap.size w w' := by
  obtain ⟨r, hr, hr8⟩ := around_nat (n := n) (m := 8) (by omega)
  obtain ⟨s, hs, hs3⟩ := around_nat (n := k) (m := 3) (by omega)
  have HA1 : Hid (∀ w, Calls Try.prog 15 #[.int .i64 n, .int .i64 8] w fun e w' => e = .returned (.int .i64 (r : Int)) ∧ w = w') := fun w => by have := around_any n 8 hn (by omega) w; rw [show (8 : Int) = ((8 : Nat) : Int) from rfl, hr] at this; exact this
  have HA2 : Hid (∀ w, Calls Try.prog 15 #[.int .i64 k, .int .i64 3] w fun e w' => e = .returned (.int .i64 (s : Int)) ∧ w = w') := fun w => by have := around_any k 3 hk (by omega) w; rw [show (3 : Int) = ((3 : Nat) : Int) from rfl, hs] at this; exact this
  clear hr hs hn hk
  have hq1 : IntKind.i64.wrap (3652058 - (s : Int)) = 3652058 - (s : Int) := by rw [IntKind.wrap_i64]; omega
  have hq2 : IntKind.i64.wrap (3652058 - (s : Int) + 1) = 3652058 - (s : Int) + 1 := by rw [IntKind.wrap_i64]; omega
  have hr7 : (r : Int) ≤ 7 := by omega
  have hs2 : (s : Int) ≤ 2 := by omega
  have HX := Lib.hid hx
  obtain ⟨ad, cap, rfl, hm, -, -⟩ := hx.open
  unfold maxLen at hm
  clear hx
  go_enter Try.func10, Try.ntmps10
  go_wp2_with fail
  go_loopw [7, 8] (fun a i wr => ∃ (j : Nat) (v7 : Value), v7 = a ∧ i = .int .i64 j ∧ j ≤ l.length ∧ j ≤ 70 ∧ Hid (wr.ownsRow w.heap.size 40 2 v7 j (spCells (l.take j))) ∧ w.heap.size ≤ wr.heap.size ∧ Hid (Below w.heap.size w wr)) (fun _ i _ => 80 - (intOf i).toNat)
  case atStart => exact ⟨0, _, rfl, rfl, Nat.zero_le _, by omega, Lib.hid (World.ownsRow_nil _ _ _ _), Nat.le_refl _, Lib.hid (Below.refl _ _)⟩
  case round =>
    obtain ⟨j, v7, rfl, rfl, hjl, hj70, HOW, hsz, HBR⟩ := hrel
    by_cases hgo : (j : Int) < (l.length : Int) ∧ (j : Int) < 70
    · obtain ⟨hg1, hg2⟩ := hgo
      have hjn : j < l.length := by omega
      obtain ⟨b5, o5, q5, e5, hlt5, c0, c1'⟩ := (HX.out.below HBR.out).at hjn
      simp only [Value.slice.injEq, true_and] at e5
      obtain ⟨rfl, -⟩ := e5
      have HT : Hid (l.take (j + 1) = l.take j ++ [l[j]]) := List.take_succ_eq_append_getElem hjn
      generalize l[j] = x at *
      obtain ⟨s1, s2⟩ := x
      simp only at c0 c1'
      obtain ⟨av, cv, rfl, -, -⟩ := owns_slice HOW.out
      have HLIT : Hid (Rd (wr.alloc (.cells (litSp (s1, s2)) 40)) (.slice (some ⟨wr.heap.size, 0, none⟩) 1 1) 2 1 (spRow (s1, s2))) := Rd.lit wr (litSp (s1, s2)) 40 2 1 rfl (by unfold maxLen; omega)
      go_wp2_with (at_builtin; go_must (refine wpList_append_rd rfl _ _ 24 rfl w.heap.size 40 _ 2 16 Try.underlying24 infoSp rfl (by decide) (.slice av j cv) j (spCells (l.take j)) rfl (owns_below HOW.out ?hb1) _ 1 (spRow (s1, s2)) rfl HLIT.out (spCells_one [(s1, s2)]) ?b1 ?b2 ?b3 ?_))
      case hb1 => exact (Below.refl _ _).alloc (Nat.le_refl _) _
      case b1 => unfold maxLen; omega
      case b2 => omega
      case b3 => simp; omega
      intro v8 w8 hv8 hg8
      have HB8 : Hid (Below w.heap.size w w8) := by
        refine below_append (w := _) ?_ (owns_below HOW.out ?_) hg8 ?_
        rotate_left
        · exact (Below.refl _ _).alloc (Nat.le_refl _) _
        · simp; omega
        · exact Below.to HBR.out ((Below.refl _ _).alloc (Nat.le_refl _) _) hsz
      have HO8 : Hid (w8.ownsRow w.heap.size 40 2 v8 (j + 1) (spCells (l.take (j + 1)))) := by
        show World.ownsRow _ _ _ _ _ _ _
        rw [HT.out, spCells_append, spCells_single]
        exact hv8
      have hs8 := HB8.out.size
      clear hv8 hg8
      go_wp2_with fail
      go_roundw
      case rel => exact ⟨j + 1, _, rfl, by go_num, by omega, by omega, HO8, hs8, HB8⟩
      case measure => simp [intOf]; omega
    · have HV7 : Hid (IsSps wr v7 (l.take j)) := IsSps.of_owns HOW.out
      generalize l.take j = A at *
      obtain ⟨W5, rfl⟩ : ∃ W5, W5 = wr := ⟨_, rfl⟩
      have hsz0 := hsz
      clear HOW
      have hparts : ¬ (j : Int) < (l.length : Int) ∨ ((j : Int) < (l.length : Int) ∧ ¬ (j : Int) < 70) := by omega
      rcases hparts with hg | ⟨hg, hg'⟩
      all_goals
        clear hgo
        go_wp2_with fail
        go_loopw [9, 10] (fun a i wq => ∃ (j : Nat) (v9 : Value), v9 = a ∧ i = .int .i64 j ∧ j ≤ 60 + r ∧ Hid (wq.ownsRow W5.heap.size 40 2 v9 j (spCells (many (3652058 - (s : Int) + 1) j))) ∧ W5.heap.size ≤ wq.heap.size ∧ Hid (Below W5.heap.size W5 wq)) (fun _ i _ => 80 - (intOf i).toNat)
        case atStart => exact ⟨0, _, rfl, rfl, Nat.zero_le _, Lib.hid (World.ownsRow_nil _ _ _ _), Nat.le_refl _, Lib.hid (Below.refl _ _)⟩
        case round =>
          obtain ⟨i, v9, rfl, rfl, hi, HOQ, hszq, HBQ⟩ := hrel
          by_cases hir : (i : Int) < 60 + (r : Int)
          · obtain ⟨av, cv, rfl, -, -⟩ := owns_slice HOQ.out
            go_wp2_with fail
            refine (HA1.out _).mono ?_
            rintro e w' ⟨rfl, rfl⟩
            go_wp2_with fail
            refine (HA2.out _).mono ?_
            rintro e w' ⟨rfl, rfl⟩
            have HLIT : Hid (∀ W : World, Rd (W.alloc (.cells (litSp ((i : Int), 3652058 - (s : Int) + 1)) 40)) (.slice (some ⟨W.heap.size, 0, none⟩) 1 1) 2 1 (spRow ((i : Int), 3652058 - (s : Int) + 1))) := fun W => Rd.lit W (litSp ((i : Int), 3652058 - (s : Int) + 1)) 40 2 1 rfl (by unfold maxLen; omega)
            go_wp2_with (at_builtin; go_must (refine wpList_append_rd rfl _ _ 24 rfl W5.heap.size 40 _ 2 16 Try.underlying24 infoSp rfl (by decide) (.slice av i cv) i (spCells (many (3652058 - (s : Int) + 1) i)) rfl (owns_below HOQ.out ?HBXN) _ 1 (spRow ((i : Int), 3652058 - (s : Int) + 1)) rfl (HLIT.out _) (spCells_one [((i : Int), 3652058 - (s : Int) + 1)]) ?BXN1 ?BXN2 ?BXN3 ?_))
            case HBXN => exact (Below.refl _ _).alloc (Nat.le_refl _) _
            case BXN1 => unfold maxLen; omega
            case BXN2 => omega
            case BXN3 => simp; omega
            intro v8 w8 hv8 hg8
            have hb8 := below_append (Below.to HBQ.out ((Below.refl _ _).alloc (Nat.le_refl _) _) hszq) (owns_below HOQ.out ((Below.refl _ _).alloc (Nat.le_refl _) _)) hg8 (by simp; omega)
            have HB8 := Lib.hid hb8
            have HO8 : Hid (w8.ownsRow W5.heap.size 40 2 v8 (i + 1) (spCells (many (3652058 - (s : Int) + 1) (i + 1)))) := by
              show World.ownsRow _ _ _ _ _ _ _
              rw [many, spCells_append, spCells_single]
              exact hv8
            have hs8 := hb8.size
            clear hv8 hg8 hb8
            go_wp2_with fail
            go_roundw
            case rel => exact ⟨i + 1, _, rfl, by go_num, by omega, HO8, by simpa using hs8, HB8⟩
            case measure => simp [intOf]; omega
          · have hi2 : i = 60 + r := by omega
            have HV9 : Hid (IsSps _ v9 (many (3652058 - (s : Int) + 1) i)) := IsSps.of_owns HOQ.out
            have HV7Q := Lib.hid (HV7.out.below HBQ.out)
            have HBQ0 := Lib.hid (Below.to HBR.out HBQ.out hsz0)
            generalize many (3652058 - (s : Int) + 1) i = M at *
            clear HOQ HBQ HV7 HBR
            go_wp2_with fail
            refine (HA1.out _).mono ?_
            rintro e w' ⟨rfl, rfl⟩
            go_wp2_with fail
            refine (check_any A v7 _ HV7Q.out).mono ?_
            rintro e w11 ⟨rfl, hb11⟩
            have HV711 := Lib.hid (HV7Q.out.below hb11)
            have HV911 := Lib.hid (HV9.out.below hb11)
            have HB11 := Lib.hid (Below.to HBQ0.out hb11 HBQ0.out.size)
            clear hb11
            go_wp2_with fail
            refine (refCheck_any A v7 _ HV711.out).mono ?_
            rintro e w12 ⟨rfl, hb12⟩
            have HV912 := Lib.hid (HV911.out.below hb12)
            have HB12 := Lib.hid (Below.to HB11.out hb12 HB11.out.size)
            clear hb12
            go_wp2_with fail
            refine (check_any M v9 _ HV912.out).mono ?_
            rintro e w13 ⟨rfl, hb13⟩
            have HV913 := Lib.hid (HV912.out.below hb13)
            have HB13 := Lib.hid (Below.to HB12.out hb13 HB12.out.size)
            clear hb13
            go_wp2_with fail
            refine (refCheck_any M v9 _ HV913.out).mono ?_
            rintro e w14 ⟨rfl, hb14⟩
            have HB14 := Lib.hid (Below.to HB13.out hb14 HB13.out.size)
            clear hb14
            go_wp2_with fail
            refine (lives_any _).mono ?_
            rintro e w99 ⟨rfl, hb99⟩
            go_wp2_with fail
            go_ret
            exact ⟨rfl, Below.to HB14.out hb99 HB14.out.size⟩

end Go.Proofs.Ytkcmkpljpmfiaaa
