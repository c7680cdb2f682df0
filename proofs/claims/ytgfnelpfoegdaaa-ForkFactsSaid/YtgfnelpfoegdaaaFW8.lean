/-
  Contracts of Root and Fork, of the program and of the reference.
-/
import Derived.Test.YtgfnelpfoegdaaaFW3
import Derived.Test.YtgfnelpfoegdaaaFW7
namespace Go.Proofs.Ytgfnelpfoegdaaa
open Go.RowKit

/-- Three results: a record, a number, an error. -/
def Ret3 (w : World) (r : List Br × Int × Int) (e : Ending) (w' : World) : Prop :=
  ∃ v', e = .returned (.tuple #[v', .int .i64 r.2.1, .int .i64 r.2.2]) ∧ IsBrs w' v' r.1 ∧ Below w.heap.size w w'

/-- Two results: a record, an error. -/
def Ret2 (w : World) (r : List Br × Int) (e : Ending) (w' : World) : Prop :=
  ∃ v', e = .returned (.tuple #[v', .int .i64 r.2]) ∧ IsBrs w' v' r.1 ∧ Below w.heap.size w w'

theorem forkRoot (l : List Br) (v : Value) (n : Int) (w : World) (hl : IsBrs w v l) (hlen : l.length ≤ 1000) (ho : ∀ x ∈ l, x.own.length ≤ 1000000) :
    Calls Try.prog 15 #[v, .int .i64 n] w (Ret3 w (rootF l n)) := by
  have HL := Lib.hid hl; clear hl
  have HO := Lib.hid ho; clear ho
  by_cases hn : 0 ≤ n ∧ n < 16
  · have hd : decide (0 ≤ n ∧ n < 16) = true := by simp; omega
    by_cases hfull : 256 ≤ l.length
    · have hr : rootF l n = ([], 0, 2) := by unfold rootF; rw [if_pos hn, if_pos hfull]
      rw [hr]
      have HF := Lib.hid hfull
      clear hr hfull hlen
      go_enter Try.func15, Try.ntmps15
      go_wp2_with (first | (go_at_call 44; refine (court_any _ _).mono ?_; rintro e w' ⟨rfl, rfl⟩) | (go_at_call 45; refine (with_full l v _ _ _ _ _ HL.out HF.out).mono ?_; rintro e w' ⟨rfl, hb⟩))
      go_ret3
      exact ⟨_, rfl, IsBrs.nil _ _ _, hb⟩
    · have hr : rootF l n = (l ++ [⟨-1, n, 0, [], true⟩], (l.length : Int), 0) := by unfold rootF; rw [if_pos hn, if_neg hfull]
      rw [hr]
      have HF := Lib.hid (show l.length < 256 by omega)
      clear hr hfull hlen
      go_enter Try.func15, Try.ntmps15
      go_wp2_with (first | (go_at_call 44; refine (court_any _ _).mono ?_; rintro e w' ⟨rfl, rfl⟩) | (go_at_call 45; refine (with_room l v _ _ _ _ _ HL.out HF.out HO.out).mono ?_; rintro e w' ⟨v', rfl, hv', hb⟩))
      go_ret3
      exact ⟨_, rfl, hv', hb⟩
  · have hd : decide (0 ≤ n ∧ n < 16) = false := by simpa using hn
    have hr : rootF l n = ([], 0, 5) := by unfold rootF; rw [if_neg hn]
    rw [hr]
    clear hr hn hlen
    go_enter Try.func15, Try.ntmps15
    go_wp2_with (first | (go_at_call 44; refine (court_any _ _).mono ?_; rintro e w' ⟨rfl, rfl⟩))
    go_ret3
    exact ⟨_, rfl, IsBrs.nil _ _ _, Below.refl _ _⟩

set_option maxHeartbeats 2000000 in
set_option maxRecDepth 100000 in
theorem refRoot (l : List Br) (v : Value) (n : Int) (w : World) (hl : IsBrs w v l) (hlen : l.length ≤ 1000) (ho : ∀ x ∈ l, x.own.length ≤ 1000000) :
    Calls Try.prog 16 #[v, .int .i64 n] w (Ret3 w (rootF l n)) := by
  obtain ⟨ad, cap, hv, -, -, -⟩ := hl.open
  subst hv
  have HL := Lib.hid hl; clear hl
  have HO := Lib.hid ho; clear ho
  by_cases hn : 0 ≤ n ∧ n < 16
  · have h0 : 0 ≤ n := hn.1
    have h15 : n ≤ 15 := by omega
    by_cases hfull : 256 ≤ l.length
    · have hr : rootF l n = ([], 0, 2) := by unfold rootF; rw [if_pos hn, if_pos hfull]
      rw [hr]
      have hf' : (256 : Int) ≤ (l.length : Int) := by omega
      clear hr hfull hlen hn
      go_enter Try.func16, Try.ntmps16
      go_wp2_with (first | (go_at_call 46; refine (in_any _ _ _ _).mono ?_; rintro e w' ⟨rfl, rfl⟩))
      go_ret3
      exact ⟨_, rfl, IsBrs.nil _ _ _, Below.refl _ _⟩
    · have hr : rootF l n = (l ++ [⟨-1, n, 0, [], true⟩], (l.length : Int), 0) := by unfold rootF; rw [if_pos hn, if_neg hfull]
      rw [hr]
      have hf' : (l.length : Int) < 256 := by omega
      have H63 : Hid (l.length + 1 ≤ maxLen) := (by show _ ≤ _; unfold maxLen; omega)
      have HBY : Hid ((l.length + 1) * 56 ≤ 140737488355328) := (by show _ ≤ _; omega)
      have HL6 : Hid (l.length ≤ 1000000) := (by show _ ≤ _; omega)
      have hone : Hid (∀ u ∈ brRow ⟨-1, n, 0, [], true⟩ (.slice none 0 0), u.oneCell' = true) := brRow_one _ rfl
      have hr1 : Hid (∀ w1 : World, Rd (w1.alloc (.cells (boxed (-1) n 0) 26)) (.slice (some ⟨w1.heap.size, 0, none⟩) 1 1) 5 1 (brRow ⟨-1, n, 0, [], true⟩ (.slice none 0 0))) :=
        fun w1 => Rd.lit w1 (boxed (-1) n 0) 26 5 1 rfl (by unfold maxLen; omega)
      have HA : Hid (Below w.heap.size w w.drew) := (Below.refl _ _).drew
      have HB : Hid (Below w.heap.size w (w.alloc (.cells (boxed (-1) n 0) 26)).drew) := ((Below.refl _ _).alloc (Nat.le_refl _) _).drew
      have hrB : Hid (Rd (w.alloc (.cells (boxed (-1) n 0) 26)).drew (.slice (some ⟨w.heap.size, 0, none⟩) 1 1) 5 1 (brRow ⟨-1, n, 0, [], true⟩ (.slice none 0 0))) := hr1.out w
      clear hr hfull hlen hn
      go_enter Try.func16, Try.ntmps16
      go_wp2_with (first
          | (go_at_call 46; refine (in_any _ _ _ _).mono ?_; rintro e w' ⟨rfl, rfl⟩)
          | (go_at_call 47
             refine (refClone l _ _ HL.out HL6.out HO.out).mono ?_
             rintro e w1 ⟨v1, us, rfl, hO1, hb1⟩
             have hs1 : w.heap.size ≤ w1.heap.size := hb1.size
             have hA1 : Hid (Below w.heap.size w w1) := hb1
             have hO2 : Hid (OwnBrs w1 w.heap.size 26 3 v1 l us l.length) := hO1
             clear hb1 hO1)
          | (at_builtin
             refine wpList_append_rd rfl _ _ 22 rfl w.heap.size 26 _ 5 56 Try.underlying22 infoBr rfl (by decide) v1 l.length (brCells l us) rfl ((hO2.out.below ((Below.refl _ _).alloc (Nat.le_refl _) _)).row) _ 1 (brRow ⟨-1, n, 0, [], true⟩ (.slice none 0 0)) rfl (hr1.out _) hone.out H63.out HBY.out (by rw [World.size_alloc]; omega) ?_
             intro v2 w2 hv2 hg2
             have hR : Hid (IsBrs w2 v2 (l ++ [⟨-1, n, 0, [], true⟩]) ∧ Below w.heap.size w w2) := OwnBrs.push_end (by decide) (hO2.out.below ((Below.refl _ _).alloc (Nat.le_refl _) (.cells (boxed (-1) n 0) 26))) (hA1.out.alloc hs1 _) (by rw [World.size_alloc]; omega) hv2 hg2
             clear hv2 hg2))
      go_ret3
      exact ⟨_, rfl, hR.out.1, hR.out.2⟩
  · have hd : decide (0 ≤ n ∧ n ≤ 15) = false := by simp; omega
    have hr : rootF l n = ([], 0, 5) := by unfold rootF; rw [if_neg hn]
    rw [hr]
    clear hr hn hlen
    go_enter Try.func16, Try.ntmps16
    go_wp2_with (first | (go_at_call 46; refine (in_any _ _ _ _).mono ?_; rintro e w' ⟨rfl, rfl⟩))
    go_ret3
    exact ⟨_, rfl, IsBrs.nil _ _ _, Below.refl _ _⟩

theorem Good.owns {l : List Br} (h : Good l) : ∀ x ∈ l, x.own.length ≤ 1000000 := by
  intro x hx
  obtain ⟨i, hi, rfl⟩ := List.getElem_of_mem hx
  have := (h.ok (List.getElem?_eq_getElem hi)).own
  omega

theorem openF_out {l : List Br} {b : Int} (h : ¬ (0 ≤ b ∧ b < l.length)) : openF l b = 3 := by
  unfold openF
  by_cases hb0 : b < 0
  · rw [if_pos hb0]
  · rw [if_neg hb0, List.getElem?_eq_none (by omega)]

theorem openF_in {l : List Br} {k : Nat} {x : Br} (h : l[k]? = some x) : openF l k = if x.opn = true then 0 else 41 := by
  unfold openF
  rw [if_neg (by omega), Int.toNat_natCast, h]

theorem forkF_out {l : List Br} {b n : Int} (h : ¬ (0 ≤ b ∧ b < l.length)) : forkF l b n = ([], 0, 3) := by
  unfold forkF
  by_cases hb0 : b < 0
  · rw [if_pos hb0]
  · rw [if_neg hb0, List.getElem?_eq_none (by omega)]

theorem forkF_in {l : List Br} {k : Nat} {x : Br} {n : Int} (h : l[k]? = some x) : forkF l k n = (if ¬ (0 ≤ n ∧ n < 16) then ([], 0, 5)
      else if x.opn = false then ([], 0, 41)
      else if 8 ≤ depth l k then ([], 0, 40)
      else if 256 ≤ l.length then ([], 0, 2)
      else (l ++ [⟨k, n, sz x, [], true⟩], (l.length : Int), 0)) := by
  unfold forkF
  rw [if_neg (by omega), Int.toNat_natCast, h]

theorem depthZ_nat (l : List Br) (k : Nat) : depthZ l k = depth l k := by unfold depthZ depth; rw [chainZ_nat]

set_option maxHeartbeats 1000000 in
set_option maxRecDepth 100000 in
theorem forkFork (l : List Br) (v : Value) (b n : Int) (w : World) (hl : IsBrs w v l) (hg : Good l) (hb : b ≤ 9223372036854775807) :
    Calls Try.prog 17 #[v, .int .i64 b, .int .i64 n] w (Ret3 w (forkF l b n)) := by
  have HL := Lib.hid hl; clear hl
  have hob := open_any l v b w HL.out hb
  by_cases hin : 0 ≤ b ∧ b < l.length
  · obtain ⟨k, rfl⟩ := Int.eq_ofNat_of_zero_le hin.1
    have hk : k < l.length := by omega
    have hx := List.getElem?_eq_getElem hk
    have hok := hg.ok hx
    rw [openF_in hx] at hob
    rw [forkF_in hx]
    by_cases hn : 0 ≤ n ∧ n < 16
    · rw [if_neg (by omega)]
      have hd : decide (0 ≤ n ∧ n < 16) = true := by simp; omega
      cases ho : l[k].opn with
      | false =>
        rw [if_pos rfl]
        rw [ho] at hob
        simp only [Bool.false_eq_true, if_false] at hob
        have HOB := Lib.hid hob
        clear hob hok hx hin hg ho
        go_enter Try.func17, Try.ntmps17
        go_wp2_with (first | (go_at_call 48; refine HOB.out.mono ?_; rintro e w' ⟨rfl, rfl⟩) | (go_at_call 44; refine (court_any _ _).mono ?_; rintro e w' ⟨rfl, rfl⟩))
        go_ret3
        exact ⟨_, rfl, IsBrs.nil _ _ _, Below.refl _ _⟩
      | true =>
        rw [if_neg (by simp)]
        rw [ho] at hob
        simp only [if_true] at hob
        have HOB := Lib.hid hob
        have hdep := forkDepth l v k w HL.out (hg.str _).dec (by have := chainZ_len (l := l) (by have := hg.1; omega) k; omega)
        rw [depthZ_nat] at hdep
        have HDEP := Lib.hid hdep
        by_cases h8 : 8 ≤ depth l k
        · rw [if_pos h8]
          have h8' : (8 : Int) ≤ (depth l k : Int) := by omega
          clear hob hok hx hin hg ho hdep h8
          go_enter Try.func17, Try.ntmps17
          go_wp2_with (first | (go_at_call 48; refine HOB.out.mono ?_; rintro e w' ⟨rfl, rfl⟩) | (go_at_call 44; refine (court_any _ _).mono ?_; rintro e w' ⟨rfl, rfl⟩) | (go_at_call 32; refine HDEP.out.mono ?_; rintro e w' ⟨rfl, hb1⟩))
          go_ret3
          exact ⟨_, rfl, IsBrs.nil _ _ _, hb1⟩
        · rw [if_neg h8]
          have h8' : (depth l k : Int) < 8 := by omega
          have hsz1 := hok.a1
          have hsz2 := hok.s
          have HX := Lib.hid hx
          have HOW := Lib.hid hg.owns
          have hsb : Hid (sz l[k] ≤ 9000000000000000000) := (show sz l[k] ≤ _ by omega)
          by_cases hfull : 256 ≤ l.length
          · rw [if_pos hfull]
            have HF := Lib.hid hfull
            clear hob hok hx hin hg ho hdep h8 hfull hsz2
            go_enter Try.func17, Try.ntmps17
            go_wp2_with (first | (go_at_call 48; refine HOB.out.mono ?_; rintro e w' ⟨rfl, rfl⟩) | (go_at_call 44; refine (court_any _ _).mono ?_; rintro e w' ⟨rfl, rfl⟩) | (go_at_call 32; refine HDEP.out.mono ?_; rintro e w1 ⟨rfl, hb1⟩; have HB1 := Lib.hid hb1; clear hb1) | (go_at_call 49; refine (size_any l v k l[k] _ (HL.out.below HB1.out) HX.out hsz1 hsb.out).mono ?_; rintro e w2 ⟨rfl, n2, rfl⟩) | (go_at_call 45; refine (with_full l v _ _ _ _ _ (HL.out.below (below_drewN HB1.out _)) HF.out).mono ?_; rintro e w3 ⟨rfl, hb3⟩))
            go_ret3
            exact ⟨_, rfl, IsBrs.nil _ _ _, Below.to (below_drewN HB1.out _) hb3 HB1.out.size⟩
          · rw [if_neg hfull]
            have HF := Lib.hid (show l.length < 256 by omega)
            clear hob hok hx hin hg ho hdep h8 hfull hsz2
            go_enter Try.func17, Try.ntmps17
            go_wp2_with (first | (go_at_call 48; refine HOB.out.mono ?_; rintro e w' ⟨rfl, rfl⟩) | (go_at_call 44; refine (court_any _ _).mono ?_; rintro e w' ⟨rfl, rfl⟩) | (go_at_call 32; refine HDEP.out.mono ?_; rintro e w1 ⟨rfl, hb1⟩; have HB1 := Lib.hid hb1; clear hb1) | (go_at_call 49; refine (size_any l v k l[k] _ (HL.out.below HB1.out) HX.out hsz1 hsb.out).mono ?_; rintro e w2 ⟨rfl, n2, rfl⟩) | (go_at_call 45; refine (with_room l v _ _ _ _ _ (HL.out.below (below_drewN HB1.out _)) HF.out HOW.out).mono ?_; rintro e w3 ⟨v3, rfl, hv3, hb3⟩))
            go_ret3
            exact ⟨_, rfl, hv3, Below.to (below_drewN HB1.out _) hb3 HB1.out.size⟩
    · rw [if_pos hn]
      have hd : decide (0 ≤ n ∧ n < 16) = false := by simpa using hn
      obtain ⟨oe, hoe, hne3⟩ : ∃ oe : Int, (if l[k].opn = true then (0 : Int) else 41) = oe ∧ (oe == 3) = false := by
        cases l[k].opn <;> exact ⟨_, rfl, by decide⟩
      rw [hoe] at hob
      have HOB := Lib.hid hob
      clear hob hok hx hin hg hn hoe
      go_enter Try.func17, Try.ntmps17
      go_wp2_with (first | (go_at_call 48; refine HOB.out.mono ?_; rintro e w' ⟨rfl, rfl⟩) | (go_at_call 44; refine (court_any _ _).mono ?_; rintro e w' ⟨rfl, rfl⟩))
      go_ret3
      exact ⟨_, rfl, IsBrs.nil _ _ _, Below.refl _ _⟩
  · rw [openF_out hin] at hob
    rw [forkF_out hin]
    have HOB := Lib.hid hob
    clear hob hin hg
    go_enter Try.func17, Try.ntmps17
    go_wp2_with (first | (go_at_call 48; refine HOB.out.mono ?_; rintro e w' ⟨rfl, rfl⟩))
    go_ret3
    exact ⟨_, rfl, IsBrs.nil _ _ _, Below.refl _ _⟩

set_option maxHeartbeats 1000000 in
set_option maxRecDepth 100000 in
theorem refFork (l : List Br) (v : Value) (b n : Int) (w : World) (hl : IsBrs w v l) (hg : Good l) :
    Calls Try.prog 18 #[v, .int .i64 b, .int .i64 n] w (Ret3 w (forkF l b n)) := by
  have HL := Lib.hid hl
  obtain ⟨ad, cap, hv, hl63, -, hc⟩ := hl.open
  subst hv
  unfold maxLen at hl63
  by_cases hin : 0 ≤ b ∧ b < l.length
  · obtain ⟨k, rfl⟩ := Int.eq_ofNat_of_zero_le hin.1
    have hk : k < l.length := by omega
    have hx := List.getElem?_eq_getElem hk
    have hok := hg.ok hx
    rw [forkF_in hx]
    have hdh : decide ((0 : Int) ≤ (k : Int) ∧ (k : Int) < (l.length : Int)) = true := by simp; omega
    obtain ⟨bb, off, u, ha, hu, -, -, -, -, c4⟩ := hc k hk
    subst ha
    have hblt : bb < w.heap.size := World.block_lt_of_cell? _ _ c4
    by_cases hn : 0 ≤ n ∧ n < 16
    · rw [if_neg (by omega)]
      have h0n : 0 ≤ n := hn.1
      have h15 : n ≤ 15 := by omega
      cases ho : l[k].opn with
      | false =>
        rw [if_pos rfl]
        rw [ho] at c4
        clear hok hx hin hg ho hc hl hu hn
        go_enter Try.func18, Try.ntmps18
        go_wp2_with (first | (go_at_call 50; refine (refhas_any _ _ _ _ _).mono ?_; rintro e w' ⟨rfl, rfl⟩) | (go_at_call 46; refine (in_any _ _ _ _).mono ?_; rintro e w' ⟨rfl, rfl⟩))
        go_ret3
        exact ⟨_, rfl, IsBrs.nil _ _ _, Below.refl _ _⟩
      | true =>
        rw [if_neg (by simp)]
        rw [ho] at c4
        have hdep := refDepth l _ k w HL.out (hg.str _).dec (by have := chainZ_len (l := l) (by have := hg.1; omega) k; omega)
        rw [depthZ_nat] at hdep
        have HDEP := Lib.hid hdep
        by_cases h8 : 8 ≤ depth l k
        · rw [if_pos h8]
          have h8' : (8 : Int) ≤ (depth l k : Int) := by omega
          clear hok hx hin hg ho hdep h8 hc hl hu hn
          go_enter Try.func18, Try.ntmps18
          go_wp2_with (first | (go_at_call 50; refine (refhas_any _ _ _ _ _).mono ?_; rintro e w' ⟨rfl, rfl⟩) | (go_at_call 46; refine (in_any _ _ _ _).mono ?_; rintro e w' ⟨rfl, rfl⟩) | (go_at_call 33; refine HDEP.out.mono ?_; rintro e w1 ⟨rfl, hb1⟩; have HB1 := Lib.hid hb1; clear hb1))
          go_ret3
          exact ⟨_, rfl, IsBrs.nil _ _ _, HB1.out⟩
        · rw [if_neg h8]
          have h8' : (depth l k : Int) < 8 := by omega
          by_cases hfull : 256 ≤ l.length
          · rw [if_pos hfull]
            have hf' : (256 : Int) ≤ (l.length : Int) := by omega
            clear hok hx hin hg ho hdep h8 hc hl hu hn hfull
            go_enter Try.func18, Try.ntmps18
            go_wp2_with (first | (go_at_call 50; refine (refhas_any _ _ _ _ _).mono ?_; rintro e w' ⟨rfl, rfl⟩) | (go_at_call 46; refine (in_any _ _ _ _).mono ?_; rintro e w' ⟨rfl, rfl⟩) | (go_at_call 33; refine HDEP.out.mono ?_; rintro e w1 ⟨rfl, hb1⟩; have HB1 := Lib.hid hb1; clear hb1))
            go_ret3
            exact ⟨_, rfl, IsBrs.nil _ _ _, HB1.out⟩
          · rw [if_neg hfull]
            have hf' : (l.length : Int) < 256 := by omega
            have HOW := Lib.hid hg.owns
            have HG := Lib.hid hg
            have hel : ((events l k).length : Int) = sz l[k] := events_len k _ (hg.str _) hx
            rw [← hel]
            have H63 : Hid (l.length + 1 ≤ maxLen) := (by show _ ≤ _; unfold maxLen; omega)
            have HBY : Hid ((l.length + 1) * 56 ≤ 140737488355328) := (by show _ ≤ _; omega)
            have HL6 : Hid (l.length ≤ 1000000) := (by show _ ≤ _; omega)
            have hone : Hid (∀ u ∈ brRow ⟨k, n, ((events l k).length : Int), [], true⟩ (.slice none 0 0), u.oneCell' = true) := brRow_one _ rfl
            have hr1 : Hid (∀ w1 : World, Rd (w1.alloc (.cells (boxed k n (((events l k).length : Int))) 26)) (.slice (some ⟨w1.heap.size, 0, none⟩) 1 1) 5 1 (brRow ⟨k, n, ((events l k).length : Int), [], true⟩ (.slice none 0 0))) :=
              fun w1 => Rd.lit w1 (boxed k n (((events l k).length : Int))) 26 5 1 rfl (by unfold maxLen; omega)
            clear hok hx hin hg ho hdep h8 hc hl hu hn hfull hel
            go_enter Try.func18, Try.ntmps18
            go_wp2_with (first | (go_at_call 50; refine (refhas_any _ _ _ _ _).mono ?_; rintro e w' ⟨rfl, rfl⟩) | (go_at_call 46; refine (in_any _ _ _ _).mono ?_; rintro e w' ⟨rfl, rfl⟩) | (go_at_call 33; refine HDEP.out.mono ?_; rintro e w1 ⟨rfl, hb1⟩; have HB1 := Lib.hid hb1; clear hb1))
            refine (refClone l _ _ (HL.out.below HB1.out) HL6.out HOW.out).mono ?_
            rintro e w2 ⟨v2, us, rfl, hO2, hb2⟩
            have HB2 := Lib.hid (Below.to HB1.out hb2 HB1.out.size)
            have HO2 := Lib.hid (hO2.mono HB1.out.size)
            clear hb2 hO2
            go_wp2_with fail
            refine (refEventsZ l _ k _ (HL.out.below HB2.out) HG.out).mono ?_
            rintro e w3 ⟨v3, rfl, hv3, hb3⟩
            obtain ⟨a3, c3, rfl, -, -, -⟩ := hv3.open
            rw [eventsZ_nat]
            have HB3 := Lib.hid (Below.to HB2.out hb3 HB2.out.size)
            have HO3 := Lib.hid (HO2.out.below hb3)
            have hs3 := HB3.out.size
            clear hb3 hv3 HO2 HB2
            go_wp2_with (at_builtin; go_must (refine wpList_append_rd rfl _ _ 22 rfl w.heap.size 26 _ 5 56 Try.underlying22 infoBr rfl (by decide) v2 l.length (brCells l us) rfl ((HO3.out.below ((Below.refl _ _).alloc (Nat.le_refl _) _)).row) _ 1 (brRow ⟨k, n, ((events l k).length : Int), [], true⟩ (.slice none 0 0)) rfl (hr1.out _) hone.out H63.out HBY.out (by rw [World.size_alloc]; omega) ?_))
            intro v4 w4 hv4 hg4
            have hR : Hid (IsBrs w4 v4 (l ++ [⟨k, n, ((events l k).length : Int), [], true⟩]) ∧ Below w.heap.size w w4) := OwnBrs.push_end (by decide) (HO3.out.below ((Below.refl _ _).alloc (Nat.le_refl _) (.cells (boxed k n (((events l k).length : Int))) 26))) (HB3.out.alloc hs3 _) (by rw [World.size_alloc]; omega) hv4 hg4
            clear hv4 hg4
            go_wp2
            go_ret3
            exact ⟨_, rfl, hR.out.1, hR.out.2⟩
    · rw [if_pos hn]
      have hd : decide (0 ≤ n ∧ n ≤ 15) = false := by simp; omega
      clear hok hx hin hg hn hc hl hu
      go_enter Try.func18, Try.ntmps18
      go_wp2_with (first | (go_at_call 50; refine (refhas_any _ _ _ _ _).mono ?_; rintro e w' ⟨rfl, rfl⟩) | (go_at_call 46; refine (in_any _ _ _ _).mono ?_; rintro e w' ⟨rfl, rfl⟩))
      go_ret3
      exact ⟨_, rfl, IsBrs.nil _ _ _, Below.refl _ _⟩
  · rw [forkF_out hin]
    have hd : decide (0 ≤ b ∧ b < (l.length : Int)) = false := by simpa using hin
    clear hin hg hc hl
    go_enter Try.func18, Try.ntmps18
    go_wp2_with (first | (go_at_call 50; refine (refhas_any _ _ _ _ _).mono ?_; rintro e w' ⟨rfl, rfl⟩))
    go_ret3
    exact ⟨_, rfl, IsBrs.nil _ _ _, Below.refl _ _⟩

end Go.Proofs.Ytgfnelpfoegdaaa
