/-
  The law ForkLimits: its walk.
-/
import Derived.Test.YtgfnelpfoegdaaaFR6
import Derived.Test.YtgfnelpfoegdaaaForkK
namespace Go.Proofs.Ytgfnelpfoegdaaa
open Go.RowKit

theorem forkF_roots {k : Nat} (h1 : 1 ≤ k) (h : k < 256) : forkF (roots k) ((0 : Nat) : Int) 0 = (roots k ++ [⟨((0 : Nat) : Int), 0, 0, [], true⟩], (k : Int), 0) := by
  obtain ⟨j, rfl⟩ : ∃ j, k = j + 1 := ⟨k - 1, by omega⟩
  rw [forkF_in (roots_zero j), if_neg (by omega), if_neg (by simp), if_neg (by rw [roots_depth]; omega), if_neg (by rw [roots_len]; omega), roots_len]
  rfl
theorem forkF_full : forkF (roots 256) ((0 : Nat) : Int) 0 = ([], 0, 2) := by
  rw [show (256 : Nat) = 255 + 1 from rfl, forkF_in (roots_zero 255), if_neg (by omega), if_neg (by simp), if_neg (by rw [roots_depth]; omega), if_pos (by rw [roots_len]; omega)]

def lit1 (c : Int) : Array Value := #[.int .i64 (-1), .int .i64 c, .int .i64 0, .slice none 0 0, .bool true]

set_option maxHeartbeats 4000000 in
set_option maxRecDepth 1000000 in
theorem forkLimits_any (many events own : Int) (w : World) (h1 : I64 many) (h2 : I64 events) (h3 : I64 own) :
    Calls Try.prog 7 #[.int .i64 many, .int .i64 events, .int .i64 own] w fun e w' => e = .returned (.bool true) ∧ Below w.heap.size w w' := by
  obtain ⟨r, hr, hr7⟩ := around_nat (n := many) (m := 7) (by omega)
  obtain ⟨s, hs, hs4⟩ := around_nat (n := events) (m := 4) (by omega)
  obtain ⟨t, ht, ht5⟩ := around_nat (n := own) (m := 5) (by omega)
  have HA1 : Hid (∀ w, Calls Try.prog 25 #[.int .i64 many, .int .i64 7] w fun e w' => e = .returned (.int .i64 (r : Int)) ∧ w = w') := fun w => by have := around_any many 7 h1 (by omega) w; rw [show (7 : Int) = ((7 : Nat) : Int) from rfl, hr] at this; exact this
  have HA2 : Hid (∀ w, Calls Try.prog 25 #[.int .i64 events, .int .i64 4] w fun e w' => e = .returned (.int .i64 (s : Int)) ∧ w = w') := fun w => by have := around_any events 4 h2 (by omega) w; rw [show (4 : Int) = ((4 : Nat) : Int) from rfl, hs] at this; exact this
  have HA3 : Hid (∀ w, Calls Try.prog 25 #[.int .i64 own, .int .i64 5] w fun e w' => e = .returned (.int .i64 (t : Int)) ∧ w = w') := fun w => by have := around_any own 5 h3 (by omega) w; rw [show (5 : Int) = ((5 : Nat) : Int) from rfl, ht] at this; exact this
  clear hr hs ht h1 h2 h3
  have hr6 : (r : Int) ≤ 6 := by omega
  have hs3 : (s : Int) ≤ 3 := by omega
  have ht4 : (t : Int) ≤ 4 := by omega
  go_enter Try.func7, Try.ntmps7
  go_wp2_with fail
  refine (HA1.out _).mono ?_
  rintro e w' ⟨rfl, rfl⟩
  go_wp2_with fail
  go_loopw [8, 9] (fun a i wr => ∃ (k : Nat) (us : List Value) (v8 : Value), v8 = a ∧ i = .int .i64 k ∧ k ≤ 250 + r ∧ Hid (OwnBrs wr w.heap.size 26 3 a (roots k) us (roots k).length) ∧ w.heap.size ≤ wr.heap.size ∧ Hid (Below w.heap.size w wr)) (fun _ i _ => 300 - (intOf i).toNat)
  case atStart => exact ⟨0, [], _, rfl, rfl, by omega, OwnBrs.nil _ _ _ _, Nat.le_refl _, Lib.hid (Below.refl _ _)⟩
  case round =>
    obtain ⟨k, us, v8, rfl, rfl, hk, HO, hsz, HB⟩ := hrel
    by_cases hkr : (k : Int) < 250 + (r : Int)
    · obtain ⟨c, hc⟩ : ∃ c, (k : Int) % 16 = c := ⟨_, rfl⟩
      have H63 : Hid ((roots k).length + 1 ≤ maxLen) := (by show _ ≤ _; rw [roots_len]; unfold maxLen; omega)
      have HBY : Hid (((roots k).length + 1) * 56 ≤ 140737488355328) := (by show _ ≤ _; rw [roots_len]; omega)
      have hone : Hid (∀ u ∈ brRow ⟨-1, c, 0, [], true⟩ (.slice none 0 0), u.oneCell' = true) := brRow_one _ rfl
      have hr1 : Hid (Rd (wr.alloc (.cells (lit1 c) 26)) (.slice (some ⟨wr.heap.size, 0, none⟩) 1 1) 5 1 (brRow ⟨-1, c, 0, [], true⟩ (.slice none 0 0))) := Rd.lit wr (lit1 c) 26 5 1 rfl (by unfold maxLen; omega)
      have HO2 : Hid (OwnBrs (wr.alloc (.cells (lit1 c) 26)) w.heap.size 26 3 v8 (roots k) us (roots k).length) := HO.out.below ((Below.refl _ _).alloc (Nat.le_refl _) _)
      have hs1 : w.heap.size ≤ (wr.alloc (.cells (lit1 c) 26)).heap.size := by rw [World.size_alloc]; omega
      have HS1 := Lib.hid hs1
      clear hs1
      go_wp2_with (at_builtin; go_must (refine wpList_append_rd rfl _ _ 22 rfl w.heap.size 26 _ 5 56 Try.underlying22 infoBr rfl (by decide) v8 (roots k).length (brCells (roots k) us) rfl HO2.out.row _ 1 (brRow ⟨-1, c, 0, [], true⟩ (.slice none 0 0)) rfl hr1.out hone.out H63.out HBY.out HS1.out ?_))
      intro v9 w9 hv9 hg9
      have HC : Hid ((k : Int) % 16 = c) := hc
      have HO9 : Hid (OwnBrs w9 w.heap.size 26 3 v9 (roots (k + 1)) (us ++ [.slice none 0 0]) (roots (k + 1)).length) := by
        have := OwnBrs.push (C := (wr.alloc (.cells (lit1 c) 26)).heap.size) (x := ⟨-1, c, 0, [], true⟩) (u := .slice none 0 0) (by decide) HO2.out (fun i hi b hb => HO2.out.lt i hi (by rw [← HO2.out.len]; exact hi) b hb) HS1.out (World.ownsRow_nil _ _ _ _) hv9 hg9
        show OwnBrs _ _ _ _ _ _ _ _
        rw [roots, HC.out, List.length_append]
        exact this
      have HB9 : Hid (Below w.heap.size w w9) := below_append (HB.out.alloc hsz _) HO2.out.row hg9 HS1.out
      have hsz9 := HB9.out.size
      clear hv9 hg9
      go_wp2_with fail
      go_roundw
      case rel => exact ⟨k + 1, _, _, rfl, by go_num, by omega, HO9, hsz9, HB9⟩
      case measure => simp [intOf]; omega
    · obtain rfl : k = 250 + r := by omega
      obtain ⟨ad, cap, hve, -, -, -⟩ := (show IsBrs wr v8 (roots (250 + r)) from ⟨us, HO.out.reads⟩).open
      have HV : Hid (IsBrs wr v8 (roots (250 + r))) := ⟨us, HO.out.reads⟩
      have HG : Hid (Good (roots (250 + r))) := roots_good _ (by omega)
      have HLN : Hid ((roots (250 + r)).length ≤ 1000) := by show _ ≤ _; rw [roots_len]; omega
      obtain ⟨m1, n1, e1, m2, n2, e2, hr1, hr2, hcase⟩ : ∃ m1 n1 e1 m2 n2 e2, rootF (roots (250 + r)) 0 = (m1, n1, e1) ∧ forkF (roots (250 + r)) ((0 : Nat) : Int) 0 = (m2, n2, e2) ∧
          ((r = 6 ∧ e1 = 2 ∧ e2 = 2) ∨ (r < 6 ∧ e1 = 0 ∧ e2 = 0 ∧ n1 = 250 + (r : Int) ∧ n2 = 250 + (r : Int))) := by
        by_cases h6 : r = 6
        · subst h6
          exact ⟨_, _, _, _, _, _, rootF_full, forkF_full, .inl ⟨rfl, rfl, rfl⟩⟩
        · exact ⟨_, _, _, _, _, _, rootF_roots (by omega), forkF_roots (by omega) (by omega), .inr ⟨by omega, rfl, rfl, by omega, by omega⟩⟩
      have h7 := forkRoot (roots (250 + r)) v8 0 wr HV.out HLN.out HG.out.owns
      rw [hr1] at h7
      subst hve
      clear HO
      go_wp2_with fail
      refine Calls.mono h7 ?_
      rintro e w7 ⟨v7, rfl, -, hb7⟩
      have HV7 := Lib.hid (HV.out.below hb7)
      have HB7 := Lib.hid (Below.to HB.out hb7 hsz)
      have h8 := forkFork (roots (250 + r)) _ ((0 : Nat) : Int) 0 w7 HV7.out HG.out (by omega)
      rw [hr2] at h8
      clear h7 hb7 hr1 hr2 HV
      go_wp2_with fail
      refine Calls.mono h8 ?_
      rintro e w8 ⟨v8, rfl, -, hb8⟩
      have HB8 := Lib.hid (Below.to HB7.out hb8 HB7.out.size)
      have hs8 := HB8.out.size
      clear h8 hb8 HV7 HG HLN HB HB7 hkr hk hsz
      obtain ⟨F, hF⟩ : ∃ F : Nat, F + s = 65536 := ⟨65536 - s, by omega⟩
      have hFi : (65536 : Int) - (s : Int) = (F : Int) := by omega
      have hF1 : 9 ≤ F := by omega
      have hF2 : F ≤ 65536 := by omega
      rcases hcase with ⟨rfl, rfl, rfl⟩ | ⟨hr6', rfl, rfl, rfl, rfl⟩
      · skip
        go_wp2_with fail
        refine (HA2.out _).mono ?_
        rintro e w' ⟨rfl, rfl⟩
        go_wp2_with (at_make; go_must (refine wpList_make_rd rfl _ _ 23 rfl w.heap.size 3 _ 1 8 Try.underlying23 infoInt _ _ F rfl rfl rfl rfl ?b0 ?b1 hs8 ?_))
        case b0 => omega
        case b1 => unfold maxLen; omega
        intro w9 hown9 hg9
        have HB9 := Lib.hid (HB8.out.grown hg9 hs8 (fun k hk => by cases hk))
        have HO9 : Hid (w9.ownsRow w.heap.size 3 1 (.slice (some ⟨w8.heap.size, 0, none⟩) F F) F (ints (List.replicate F 0))) := by
          show World.ownsRow _ _ _ _ _ _ _
          rw [toList_madeCells_one] at hown9
          rw [show ints (List.replicate F 0) = List.replicate F (Value.int .i64 0) from by simp [ints]]
          exact hown9
        clear hown9 hg9
        have hs9 := HB9.out.size
        go_wp2_with fail
        refine (HA3.out _).mono ?_
        rintro e w' ⟨rfl, rfl⟩
        go_wp2_with (at_make; go_must (refine wpList_make_rd rfl _ _ 23 rfl w.heap.size 3 _ 1 8 Try.underlying23 infoInt _ _ t rfl rfl rfl rfl ?b0 ?b1 hs9 ?_))
        case b0 => omega
        case b1 => unfold maxLen; omega
        intro w10 hown10 hg10
        have HB10 := Lib.hid (HB9.out.grown hg10 hs9 (fun k hk => by cases hk))
        have HO10 : Hid (w10.ownsRow w.heap.size 3 1 (.slice (some ⟨w9.heap.size, 0, none⟩) t t) t (ints (List.replicate t 0))) := by
          show World.ownsRow _ _ _ _ _ _ _
          rw [toList_madeCells_one] at hown10
          rw [show ints (List.replicate t 0) = List.replicate t (Value.int .i64 0) from by simp [ints]]
          exact hown10
        have hb910 : Below w9.heap.size w9 w10 := (Below.refl _ _).grown hg10 (Nat.le_refl _) (fun k hk => by cases hk)
        have HI9 : Hid (IsInts w10 (.slice (some ⟨w8.heap.size, 0, none⟩) F F) (List.replicate F 0)) := (IsInts.of_owns HO9.out).below hb910
        have HI10 : Hid (IsInts w10 (.slice (some ⟨w9.heap.size, 0, none⟩) t t) (List.replicate t 0)) := IsInts.of_owns HO10.out
        clear hown10 hg10 hb910
        have hs10 := HB10.out.size
        have HIS : Hid (∀ A : Array Value, A = #[.int .i64 (-1), .int .i64 0, .int .i64 0, .slice (some ⟨w8.heap.size, 0, none⟩) F F, .bool true, .int .i64 0, .int .i64 0, .int .i64 9, .slice (some ⟨w9.heap.size, 0, none⟩) t t, .bool true] → IsBrs (w10.alloc (.cells A 26)) (.slice (some ⟨w10.heap.size, 0, none⟩) 2 2) (twoB (List.replicate F 0) (List.replicate t 0)) ∧ Below w.heap.size w (w10.alloc (.cells A 26))) := by
          intro A hA
          subst hA
          refine ⟨⟨[.slice (some ⟨w8.heap.size, 0, none⟩) F F, .slice (some ⟨w9.heap.size, 0, none⟩) t t], rfl, ?_, ?_⟩, HB10.out.alloc hs10 _⟩
          · exact Rd.lit w10 _ 26 5 2 rfl (by unfold maxLen; omega)
          · intro i hi hi'
            have hi2 : i < 2 := hi
            rcases (by omega : i = 0 ∨ i = 1) with rfl | rfl
            · exact HI9.out.below ((Below.refl _ _).alloc (Nat.le_refl _) _)
            · exact HI10.out.below ((Below.refl _ _).alloc (Nat.le_refl _) _)
        have HGT : Hid (Good (twoB (List.replicate F 0) (List.replicate t 0))) := two_good (by rw [List.length_replicate]; omega) (by rw [List.length_replicate]; omega) (by rw [List.length_replicate]; omega)
        clear HI9 HI10 HB9 HO9 HO10
        go_wp2_with fail
        obtain ⟨h11, hb11⟩ := HIS.out _ rfl
        generalize w10.alloc _ = w11 at *
        have HV11 := Lib.hid h11
        have HB11 := Lib.hid hb11
        clear h11 hb11 HIS HB10 hs10
        have h12 := forkAdd _ _ ((0 : Nat) : Int) 7 w11 HV11.out HGT.out (by omega)
        by_cases hF0 : F = 65536
        · rw [two_add_full (by rw [List.length_replicate]; omega)] at h12
          have hFn : ((F : Int) == 65536) = true := by simp; omega
          have hFl : (65536 : Int) ≤ (F : Int) := by omega
          have hFl2 : ¬ (F : Int) < 65536 := by omega
          refine Calls.mono h12 ?_
          rintro e w12 ⟨v12, rfl, -, hb12⟩
          have HV12 := Lib.hid (HV11.out.below hb12)
          have HB12 := Lib.hid (Below.to HB11.out hb12 HB11.out.size)
          clear h12 hb12
          have h13 := forkRemand _ _ ((1 : Nat) : Int) w12 HV12.out HGT.out (by omega)
          go_wp2_with fail
          by_cases hFt : 65536 < F + t
          · rw [two_remand_full (by rw [List.length_replicate, List.length_replicate]; omega)] at h13
            refine Calls.mono h13 ?_
            rintro e w13 ⟨v13, rfl, -, hb13⟩
            skip
            have HB13 := Lib.hid (Below.to HB12.out hb13 HB12.out.size)
            have hsum : (65536 : Int) < (F : Int) + (t : Int) := by omega
            have hwt : IntKind.i64.wrap ((F : Int) + (t : Int)) = (F : Int) + (t : Int) := by rw [IntKind.wrap_i64]; omega
            clear h13 hb13
            go_wp2_with fail
            refine (lives_any _).mono ?_
            rintro e w99 ⟨rfl, hb99⟩
            go_wp2_with fail
            go_ret
            exact ⟨rfl, Below.to HB13.out hb99 HB13.out.size⟩
          · rw [two_remand (by rw [List.length_replicate, List.length_replicate]; omega)] at h13
            refine Calls.mono h13 ?_
            rintro e w13 ⟨v13, rfl, hv13, hb13⟩
            obtain ⟨b13, o13, q13, u13, rfl, hu13, hlt13, -, -, -, g3, -⟩ := hv13.at (twoC_zero _ _)
            obtain ⟨uga, ugc, rfl, -, -, -⟩ := hu13.open
            have g3' : w13.cell? ⟨b13, o13 + 3, none⟩ = some (.slice uga (F + t) ugc) := by simpa using g3
            rw [twoC_len]
            skip
            have HB13 := Lib.hid (Below.to HB12.out hb13 HB12.out.size)
            have hsum : ¬ (65536 : Int) < (F : Int) + (t : Int) := by omega
            have hsum2 : (F : Int) + (t : Int) ≤ 65536 := by omega
            have hwt : IntKind.i64.wrap ((F : Int) + (t : Int)) = (F : Int) + (t : Int) := by rw [IntKind.wrap_i64]; omega
            clear h13 hb13 hv13 hu13 g3
            go_wp2_with fail
            refine (lives_any _).mono ?_
            rintro e w99 ⟨rfl, hb99⟩
            go_wp2_with fail
            go_ret
            exact ⟨rfl, Below.to HB13.out hb99 HB13.out.size⟩
        · rw [two_add (by rw [List.length_replicate]; omega)] at h12
          refine Calls.mono h12 ?_
          rintro e w12 ⟨v12, rfl, hv12, hb12⟩
          obtain ⟨b12, o12, q12, u12, rfl, hu12, hlt12, -, -, -, d3, -⟩ := hv12.at (twoB_zero _ _)
          obtain ⟨ua, uc, rfl, -, -, -⟩ := hu12.open
          have d3' : w12.cell? ⟨b12, o12 + 3, none⟩ = some (.slice ua (F + 1) uc) := by simpa using d3
          rw [twoB_len]
          have HV12 := Lib.hid (HV11.out.below hb12)
          have HB12 := Lib.hid (Below.to HB11.out hb12 HB11.out.size)
          clear h12 hb12 hv12 hu12 d3
          have hFn : ((F : Int) == 65536) = false := by simp; omega
          have hFl : (F : Int) < 65536 := by omega
          have hwF : IntKind.i64.wrap ((F : Int) + 1) = (F : Int) + 1 := by rw [IntKind.wrap_i64]; omega
          have h13 := forkRemand _ _ ((1 : Nat) : Int) w12 HV12.out HGT.out (by omega)
          go_wp2_with fail
          by_cases hFt : 65536 < F + t
          · rw [two_remand_full (by rw [List.length_replicate, List.length_replicate]; omega)] at h13
            refine Calls.mono h13 ?_
            rintro e w13 ⟨v13, rfl, -, hb13⟩
            have d3'' := (hb13.cell hlt12).trans d3'
            have HB13 := Lib.hid (Below.to HB12.out hb13 HB12.out.size)
            have hsum : (65536 : Int) < (F : Int) + (t : Int) := by omega
            have hwt : IntKind.i64.wrap ((F : Int) + (t : Int)) = (F : Int) + (t : Int) := by rw [IntKind.wrap_i64]; omega
            clear h13 hb13
            go_wp2_with fail
            refine (lives_any _).mono ?_
            rintro e w99 ⟨rfl, hb99⟩
            go_wp2_with fail
            go_ret
            exact ⟨rfl, Below.to HB13.out hb99 HB13.out.size⟩
          · rw [two_remand (by rw [List.length_replicate, List.length_replicate]; omega)] at h13
            refine Calls.mono h13 ?_
            rintro e w13 ⟨v13, rfl, hv13, hb13⟩
            obtain ⟨b13, o13, q13, u13, rfl, hu13, hlt13, -, -, -, g3, -⟩ := hv13.at (twoC_zero _ _)
            obtain ⟨uga, ugc, rfl, -, -, -⟩ := hu13.open
            have g3' : w13.cell? ⟨b13, o13 + 3, none⟩ = some (.slice uga (F + t) ugc) := by simpa using g3
            rw [twoC_len]
            have d3'' := (hb13.cell hlt12).trans d3'
            have HB13 := Lib.hid (Below.to HB12.out hb13 HB12.out.size)
            have hsum : ¬ (65536 : Int) < (F : Int) + (t : Int) := by omega
            have hsum2 : (F : Int) + (t : Int) ≤ 65536 := by omega
            have hwt : IntKind.i64.wrap ((F : Int) + (t : Int)) = (F : Int) + (t : Int) := by rw [IntKind.wrap_i64]; omega
            clear h13 hb13 hv13 hu13 g3
            go_wp2_with fail
            refine (lives_any _).mono ?_
            rintro e w99 ⟨rfl, hb99⟩
            go_wp2_with fail
            go_ret
            exact ⟨rfl, Below.to HB13.out hb99 HB13.out.size⟩
      · have hne : ((250 : Int) + (r : Int) == 256) = false := by simp; omega
        go_wp2_with fail
        refine (HA2.out _).mono ?_
        rintro e w' ⟨rfl, rfl⟩
        go_wp2_with (at_make; go_must (refine wpList_make_rd rfl _ _ 23 rfl w.heap.size 3 _ 1 8 Try.underlying23 infoInt _ _ F rfl rfl rfl rfl ?b0 ?b1 hs8 ?_))
        case b0 => omega
        case b1 => unfold maxLen; omega
        intro w9 hown9 hg9
        have HB9 := Lib.hid (HB8.out.grown hg9 hs8 (fun k hk => by cases hk))
        have HO9 : Hid (w9.ownsRow w.heap.size 3 1 (.slice (some ⟨w8.heap.size, 0, none⟩) F F) F (ints (List.replicate F 0))) := by
          show World.ownsRow _ _ _ _ _ _ _
          rw [toList_madeCells_one] at hown9
          rw [show ints (List.replicate F 0) = List.replicate F (Value.int .i64 0) from by simp [ints]]
          exact hown9
        clear hown9 hg9
        have hs9 := HB9.out.size
        go_wp2_with fail
        refine (HA3.out _).mono ?_
        rintro e w' ⟨rfl, rfl⟩
        go_wp2_with (at_make; go_must (refine wpList_make_rd rfl _ _ 23 rfl w.heap.size 3 _ 1 8 Try.underlying23 infoInt _ _ t rfl rfl rfl rfl ?b0 ?b1 hs9 ?_))
        case b0 => omega
        case b1 => unfold maxLen; omega
        intro w10 hown10 hg10
        have HB10 := Lib.hid (HB9.out.grown hg10 hs9 (fun k hk => by cases hk))
        have HO10 : Hid (w10.ownsRow w.heap.size 3 1 (.slice (some ⟨w9.heap.size, 0, none⟩) t t) t (ints (List.replicate t 0))) := by
          show World.ownsRow _ _ _ _ _ _ _
          rw [toList_madeCells_one] at hown10
          rw [show ints (List.replicate t 0) = List.replicate t (Value.int .i64 0) from by simp [ints]]
          exact hown10
        have hb910 : Below w9.heap.size w9 w10 := (Below.refl _ _).grown hg10 (Nat.le_refl _) (fun k hk => by cases hk)
        have HI9 : Hid (IsInts w10 (.slice (some ⟨w8.heap.size, 0, none⟩) F F) (List.replicate F 0)) := (IsInts.of_owns HO9.out).below hb910
        have HI10 : Hid (IsInts w10 (.slice (some ⟨w9.heap.size, 0, none⟩) t t) (List.replicate t 0)) := IsInts.of_owns HO10.out
        clear hown10 hg10 hb910
        have hs10 := HB10.out.size
        have HIS : Hid (∀ A : Array Value, A = #[.int .i64 (-1), .int .i64 0, .int .i64 0, .slice (some ⟨w8.heap.size, 0, none⟩) F F, .bool true, .int .i64 0, .int .i64 0, .int .i64 9, .slice (some ⟨w9.heap.size, 0, none⟩) t t, .bool true] → IsBrs (w10.alloc (.cells A 26)) (.slice (some ⟨w10.heap.size, 0, none⟩) 2 2) (twoB (List.replicate F 0) (List.replicate t 0)) ∧ Below w.heap.size w (w10.alloc (.cells A 26))) := by
          intro A hA
          subst hA
          refine ⟨⟨[.slice (some ⟨w8.heap.size, 0, none⟩) F F, .slice (some ⟨w9.heap.size, 0, none⟩) t t], rfl, ?_, ?_⟩, HB10.out.alloc hs10 _⟩
          · exact Rd.lit w10 _ 26 5 2 rfl (by unfold maxLen; omega)
          · intro i hi hi'
            have hi2 : i < 2 := hi
            rcases (by omega : i = 0 ∨ i = 1) with rfl | rfl
            · exact HI9.out.below ((Below.refl _ _).alloc (Nat.le_refl _) _)
            · exact HI10.out.below ((Below.refl _ _).alloc (Nat.le_refl _) _)
        have HGT : Hid (Good (twoB (List.replicate F 0) (List.replicate t 0))) := two_good (by rw [List.length_replicate]; omega) (by rw [List.length_replicate]; omega) (by rw [List.length_replicate]; omega)
        clear HI9 HI10 HB9 HO9 HO10
        go_wp2_with fail
        obtain ⟨h11, hb11⟩ := HIS.out _ rfl
        generalize w10.alloc _ = w11 at *
        have HV11 := Lib.hid h11
        have HB11 := Lib.hid hb11
        clear h11 hb11 HIS HB10 hs10
        have h12 := forkAdd _ _ ((0 : Nat) : Int) 7 w11 HV11.out HGT.out (by omega)
        by_cases hF0 : F = 65536
        · rw [two_add_full (by rw [List.length_replicate]; omega)] at h12
          have hFn : ((F : Int) == 65536) = true := by simp; omega
          have hFl : (65536 : Int) ≤ (F : Int) := by omega
          have hFl2 : ¬ (F : Int) < 65536 := by omega
          refine Calls.mono h12 ?_
          rintro e w12 ⟨v12, rfl, -, hb12⟩
          have HV12 := Lib.hid (HV11.out.below hb12)
          have HB12 := Lib.hid (Below.to HB11.out hb12 HB11.out.size)
          clear h12 hb12
          have h13 := forkRemand _ _ ((1 : Nat) : Int) w12 HV12.out HGT.out (by omega)
          go_wp2_with fail
          by_cases hFt : 65536 < F + t
          · rw [two_remand_full (by rw [List.length_replicate, List.length_replicate]; omega)] at h13
            refine Calls.mono h13 ?_
            rintro e w13 ⟨v13, rfl, -, hb13⟩
            skip
            have HB13 := Lib.hid (Below.to HB12.out hb13 HB12.out.size)
            have hsum : (65536 : Int) < (F : Int) + (t : Int) := by omega
            have hwt : IntKind.i64.wrap ((F : Int) + (t : Int)) = (F : Int) + (t : Int) := by rw [IntKind.wrap_i64]; omega
            clear h13 hb13
            go_wp2_with fail
            refine (lives_any _).mono ?_
            rintro e w99 ⟨rfl, hb99⟩
            go_wp2_with fail
            go_ret
            exact ⟨rfl, Below.to HB13.out hb99 HB13.out.size⟩
          · rw [two_remand (by rw [List.length_replicate, List.length_replicate]; omega)] at h13
            refine Calls.mono h13 ?_
            rintro e w13 ⟨v13, rfl, hv13, hb13⟩
            obtain ⟨b13, o13, q13, u13, rfl, hu13, hlt13, -, -, -, g3, -⟩ := hv13.at (twoC_zero _ _)
            obtain ⟨uga, ugc, rfl, -, -, -⟩ := hu13.open
            have g3' : w13.cell? ⟨b13, o13 + 3, none⟩ = some (.slice uga (F + t) ugc) := by simpa using g3
            rw [twoC_len]
            skip
            have HB13 := Lib.hid (Below.to HB12.out hb13 HB12.out.size)
            have hsum : ¬ (65536 : Int) < (F : Int) + (t : Int) := by omega
            have hsum2 : (F : Int) + (t : Int) ≤ 65536 := by omega
            have hwt : IntKind.i64.wrap ((F : Int) + (t : Int)) = (F : Int) + (t : Int) := by rw [IntKind.wrap_i64]; omega
            clear h13 hb13 hv13 hu13 g3
            go_wp2_with fail
            refine (lives_any _).mono ?_
            rintro e w99 ⟨rfl, hb99⟩
            go_wp2_with fail
            go_ret
            exact ⟨rfl, Below.to HB13.out hb99 HB13.out.size⟩
        · rw [two_add (by rw [List.length_replicate]; omega)] at h12
          refine Calls.mono h12 ?_
          rintro e w12 ⟨v12, rfl, hv12, hb12⟩
          obtain ⟨b12, o12, q12, u12, rfl, hu12, hlt12, -, -, -, d3, -⟩ := hv12.at (twoB_zero _ _)
          obtain ⟨ua, uc, rfl, -, -, -⟩ := hu12.open
          have d3' : w12.cell? ⟨b12, o12 + 3, none⟩ = some (.slice ua (F + 1) uc) := by simpa using d3
          rw [twoB_len]
          have HV12 := Lib.hid (HV11.out.below hb12)
          have HB12 := Lib.hid (Below.to HB11.out hb12 HB11.out.size)
          clear h12 hb12 hv12 hu12 d3
          have hFn : ((F : Int) == 65536) = false := by simp; omega
          have hFl : (F : Int) < 65536 := by omega
          have hwF : IntKind.i64.wrap ((F : Int) + 1) = (F : Int) + 1 := by rw [IntKind.wrap_i64]; omega
          have h13 := forkRemand _ _ ((1 : Nat) : Int) w12 HV12.out HGT.out (by omega)
          go_wp2_with fail
          by_cases hFt : 65536 < F + t
          · rw [two_remand_full (by rw [List.length_replicate, List.length_replicate]; omega)] at h13
            refine Calls.mono h13 ?_
            rintro e w13 ⟨v13, rfl, -, hb13⟩
            have d3'' := (hb13.cell hlt12).trans d3'
            have HB13 := Lib.hid (Below.to HB12.out hb13 HB12.out.size)
            have hsum : (65536 : Int) < (F : Int) + (t : Int) := by omega
            have hwt : IntKind.i64.wrap ((F : Int) + (t : Int)) = (F : Int) + (t : Int) := by rw [IntKind.wrap_i64]; omega
            clear h13 hb13
            go_wp2_with fail
            refine (lives_any _).mono ?_
            rintro e w99 ⟨rfl, hb99⟩
            go_wp2_with fail
            go_ret
            exact ⟨rfl, Below.to HB13.out hb99 HB13.out.size⟩
          · rw [two_remand (by rw [List.length_replicate, List.length_replicate]; omega)] at h13
            refine Calls.mono h13 ?_
            rintro e w13 ⟨v13, rfl, hv13, hb13⟩
            obtain ⟨b13, o13, q13, u13, rfl, hu13, hlt13, -, -, -, g3, -⟩ := hv13.at (twoC_zero _ _)
            obtain ⟨uga, ugc, rfl, -, -, -⟩ := hu13.open
            have g3' : w13.cell? ⟨b13, o13 + 3, none⟩ = some (.slice uga (F + t) ugc) := by simpa using g3
            rw [twoC_len]
            have d3'' := (hb13.cell hlt12).trans d3'
            have HB13 := Lib.hid (Below.to HB12.out hb13 HB12.out.size)
            have hsum : ¬ (65536 : Int) < (F : Int) + (t : Int) := by omega
            have hsum2 : (F : Int) + (t : Int) ≤ 65536 := by omega
            have hwt : IntKind.i64.wrap ((F : Int) + (t : Int)) = (F : Int) + (t : Int) := by rw [IntKind.wrap_i64]; omega
            clear h13 hb13 hv13 hu13 g3
            go_wp2_with fail
            refine (lives_any _).mono ?_
            rintro e w99 ⟨rfl, hb99⟩
            go_wp2_with fail
            go_ret
            exact ⟨rfl, Below.to HB13.out hb99 HB13.out.size⟩

end Go.Proofs.Ytgfnelpfoegdaaa
