/-
  A reader of the wire format: Uint, length, Int, Ints, End, NewReader.
-/
import Derived.Test.YtkcmkpljpmfiaaaWiI
import Derived.WalkMore
namespace Go.Proofs.Ytkcmkpljpmfiaaa
open Go.RowKit

theorem IsBts.drop {w : World} {b o cap : Nat} {xs : List Int} (h : IsBts w (.slice (some ⟨b, o, none⟩) xs.length cap) xs) (k : Nat) (hk : k ≤ xs.length) : IsBts w (.slice (some ⟨b, o + k, none⟩) (xs.length - k) (cap - k)) (xs.drop k) := by
  obtain ⟨h1, h2, a, cap', e, hn, hc⟩ := h
  simp only [Value.slice.injEq, true_and] at e
  obtain ⟨rfl, rfl⟩ := e
  refine ⟨by simp [bts], by rw [List.length_drop]; omega, _, _, by rw [List.length_drop], by rw [List.length_drop]; omega, fun j u hu => ⟨b, o + k, rfl, ?_⟩⟩
  have e1 : (bts xs)[k + j]? = some u := by
    rw [← hu]
    unfold bts
    rw [List.getElem?_map, List.getElem?_map, List.getElem?_drop]
  obtain ⟨b', o', e2, hcell⟩ := hc (k + j) u e1
  simp only [Option.some.injEq, Addr.mk.injEq, and_true] at e2
  obtain ⟨rfl, rfl⟩ := e2
  rw [Nat.add_assoc]
  exact hcell

theorem infoIw : (Try.prog.info? 3).map (fun i => (i.zero, i.size, i.bytes)) = some (some (.int .i64 0), 1, 8) := by kernel_rfl
/-- A reader behind q, that has bs left, and no error. -/
structure Rr (W : World) (q : Nat) (v : Value) (bs : List Int) : Prop where
  box : W.heap[q]? = some (.cells #[v, .int .i64 0] 69 (0, 0))
  row : IsBts W v bs
  apart : ∀ k, v.ownBlock = some k → k < q
theorem Rr.lt {W : World} {q : Nat} {v : Value} {bs : List Int} (h : Rr W q v bs) : q < W.heap.size := (Array.getElem?_eq_some_iff.1 h.box).1
theorem Rr.cell0 {W : World} {q : Nat} {v : Value} {bs : List Int} (h : Rr W q v bs) : W.cell? ⟨q, 0, none⟩ = some v := by simp [World.cell?, h.box]
theorem Rr.cell1 {W : World} {q : Nat} {v : Value} {bs : List Int} (h : Rr W q v bs) : W.cell? ⟨q, 1, none⟩ = some (.int .i64 0) := by simp [World.cell?, h.box]
theorem Rr.frozen {W : World} {q : Nat} {v : Value} {bs : List Int} (h : Rr W q v bs) : W.frozen? ⟨q, 0, none⟩ = false := by simp [World.frozen?, h.box]
/-- What a reader's work leaves alone: every block but q. -/
def RrK (w w' : World) (q : Nat) : Prop := w.grownBy w' (some q)
theorem RrK.refl (w : World) (q : Nat) : RrK w w q := World.grownBy.refl _ _
theorem RrK.trans {w w1 w2 : World} {q : Nat} (h : RrK w w1 q) (h' : RrK w1 w2 q) : RrK w w2 q := World.grownBy.trans h h'
theorem RrK.rd {w w' : World} {q : Nat} (h : RrK w w' q) {v : Value} {s n : Nat} {cs : List Value} (hr : Rd w v s n cs) (hk : v.ownBlock ≠ some q) : Rd w' v s n cs :=
  hr.same fun k hl hv => h.block k hl (fun e => hk (by rw [hv, e]))
theorem RrK.below {w w' : World} {q B : Nat} (h : RrK w w' q) (hq : B ≤ q) (hB : B ≤ w.heap.size) : Below B w w' := (Below.refl B w).grown h hB (fun k hk => by cases hk; exact hq)
theorem Rr.step {W : World} {q : Nat} {v u : Value} {bs cs : List Int} (h : Rr W q v bs) (hu : IsBts W u cs) (hq : ∀ k, u.ownBlock = some k → k < q) : Rr (W.setCell ⟨q, 0, none⟩ u) q u cs ∧ RrK W (W.setCell ⟨q, 0, none⟩ u) q := by
  have hk : RrK W (W.setCell ⟨q, 0, none⟩ u) q := grownBy_setCell' W q u
  refine ⟨⟨?_, hk.rd hu (fun e => Nat.lt_irrefl _ (hq _ e)), hq⟩, hk⟩
  have hlt := h.lt
  have hb := h.box
  show (W.heap.modify q _)[q]? = _
  rw [Array.getElem?_eq_getElem (by rw [Array.size_modify]; exact hlt), Array.getElem_modify_self, (Array.getElem?_eq_some_iff.1 hb).2]
  rfl

theorem and127 (a : Nat) (h : a < 256) : bits .and .u8 (a : Int) 127 = ((a % 128 : Nat) : Int) := by
  have e := u8_and_nat a 127 h (by decide)
  have d : ∀ x, x < 256 → x &&& 127 = x % 128 := by decide +kernel
  rw [d a h] at e
  exact e
theorem two7 (k : Nat) : 2 ^ (7 * k) = 128 ^ k := by rw [Nat.pow_mul]
theorem or_join (acc r k : Nat) (h1 : acc < 128 ^ k) (h2 : acc + 128 ^ k * r < 18446744073709551616) : bits .or .u64 (acc : Int) ((128 ^ k * r : Nat) : Int) = ((acc + 128 ^ k * r : Nat) : Int) := by
  have e := u64_or_nat acc (128 ^ k * r) (by omega) (by omega)
  rw [e]
  congr 1
  rw [← two7] at h1 ⊢
  rw [Nat.or_comm, Nat.add_comm]
  exact (Nat.two_pow_add_eq_or_of_lt h1 r).symm

set_option maxHeartbeats 1000000 in
set_option maxRecDepth 100000 in
theorem rrUint (n : Nat) (hn : n < 9223372036854775808) (bs : List Int) (q : Nat) (v : Value) (w : World) (h : Rr w q v (encU n ++ bs)) :
    Calls Try.prog 47 #[.pointer (some ⟨q, 0, none⟩)] w fun e w' => e = .returned (.int .u64 n) ∧ (∃ v', Hid (Rr w' q v' bs)) ∧ RrK w w' q := by
  have HR := Lib.hid h
  obtain ⟨a, cap, rfl, hm, hcap, hc⟩ := h.row.open
  unfold maxLen at hm
  have c0 := h.cell0
  have c1 := h.cell1
  have f0 := h.frozen
  have HC := Lib.hid hc
  obtain ⟨L, hL⟩ : ∃ L, (encU n ++ bs).length = L := ⟨_, rfl⟩
  rw [hL] at c0 hm hcap HR
  clear h hc
  go_enter Try.func47, Try.ntmps47
  go_wp2_with fail
  go_step3
  go_wp2_with fail
  go_step3
  go_wp2_with fail
  go_loopw [3, 4] (fun x y wr => ∃ (k acc rest : Nat), x = .int .u64 acc ∧ y = .int .i64 k ∧ k < 9 ∧ Hid (DecAt n k acc rest) ∧ wr = w) (fun _ y _ => 10 - (intOf y).toNat)
  case atStart => exact ⟨0, 0, n, rfl, rfl, by omega, Lib.hid (DecAt.start n), rfl⟩
  case round =>
    obtain ⟨k, acc, rest, rfl, rfl, hk, HD, rfl⟩ := hrel
    have ek : IntKind.i64.wrap ((k : Int) + 1) = ((k + 1 : Nat) : Int) := by rw [IntKind.wrap_i64]; omega
    obtain ⟨hkl, hget⟩ := HD.out.get
    obtain ⟨b9, o9, rfl, c9⟩ := HC.out k (by rw [List.length_append]; omega)
    rw [List.getElem_append_left hkl, hget] at c9
    have hk10 : ¬ (k : Int) = 10 := by omega
    have hk11 : ¬ (k : Int) + 1 = 10 := by omega
    have hkL : ¬ (k : Int) = (L : Int) := by rw [← hL, List.length_append]; omega
    have hkL2 : (k : Int) < (L : Int) := by rw [← hL, List.length_append]; omega
    have hsum := HD.out.sum
    have hacc := HD.out.lt
    by_cases hr : rest < 128
    · rw [if_pos hr] at c9
      have hA : bits .and .u8 (rest : Int) 127 = (rest : Int) := by rw [and127 rest (by omega), Nat.mod_eq_of_lt hr]
      have hW : IntKind.u64.wrap (rest : Int) = (rest : Int) := by
        have := Nat.mod_eq_of_lt (show rest < 18446744073709551616 by omega)
        simp [IntKind.wrap, IntKind.bits, IntKind.signed]
        omega
      obtain ⟨P, hP⟩ : ∃ P, 128 ^ k * rest = P := ⟨_, rfl⟩
      have hPW : IntKind.u64.wrap ((rest : Int) * 2 ^ (7 * k)) = (P : Int) := by
        have e : (rest : Int) * 2 ^ (7 * k) = (P : Int) := by
          rw [← hP, ← two7, Int.natCast_mul, Int.natCast_pow, Int.mul_comm]
          rfl
        rw [e]
        simp [IntKind.wrap, IntKind.bits, IntKind.signed]
        omega
      have hO : bits .or .u64 (acc : Int) (P : Int) = (n : Int) := by
        have h := or_join acc rest k hacc (by omega)
        rw [hP] at h
        rw [h]
        omega
      obtain ⟨hn1, hn2⟩ := HD.out.last hr
      have hbs : (encU n ++ bs).drop (k + 1) = bs := by rw [← hn2, List.drop_left]
      have hr128 : (rest : Int) < 128 := by omega
      have HBK : Hid (L = k + 1 + bs.length) := by show _ = _; rw [← hL, List.length_append, hn2]
      have HBS := Lib.hid hbs
      have HRM := Lib.hid HD.out.more
      have hLk : k + 1 ≤ L := by rw [HBK.out]; omega
      clear hP hget hsum hacc hn1 hn2 hbs hkl
      by_cases hcp : cap = k + 1
      · have HU : Hid (IsBts wr (.slice (some ⟨b9, o9, none⟩) 0 0) bs) := by
          have hb0 : bs.length = 0 := by have := HBK.out; omega
          have hb1 : bs = [] := List.eq_nil_of_length_eq_zero hb0
          subst hb1
          exact Rd.nil _ _ _ _
        obtain ⟨hs1, hs2⟩ := HR.out.step HU.out HR.out.apart
        have HS1 := Lib.hid hs1
        have HS2 := Lib.hid hs2
        clear hs1 hs2 HU
        subst hcp
        by_cases hk0 : k = 0
        · have hk1 : ¬ (1 : Int) < (k : Int) + 1 := by omega
          clear hk0
          go_wp2_with fail
          try rw [Exit.noGoto_ret]
          go_ret
          exact ⟨rfl, ⟨_, HS1⟩, HS2.out⟩
        · have hk1 : (1 : Int) < (k : Int) + 1 := by omega
          have hr0 : ¬ (rest : Int) = 0 := by have := HRM.out (by omega); omega
          clear hk0
          go_wp2_with fail
          try rw [Exit.noGoto_ret]
          go_ret
          exact ⟨rfl, ⟨_, HS1⟩, HS2.out⟩
      · have HU : Hid (IsBts wr (.slice (some ⟨b9, o9 + (k + 1), none⟩) (L - (k + 1)) (cap - (k + 1))) bs) := by
          have h := HR.out.row
          have e : (encU n ++ bs).length = L := hL
          rw [← e] at h
          have h2 := h.drop (k + 1) (by rw [e]; exact hLk)
          rw [HBS.out, e] at h2
          exact h2
        obtain ⟨hs1, hs2⟩ := HR.out.step HU.out HR.out.apart
        have HS1 := Lib.hid hs1
        have HS2 := Lib.hid hs2
        clear hs1 hs2 HU
        by_cases hk0 : k = 0
        · have hk1 : ¬ (1 : Int) < (k : Int) + 1 := by omega
          clear hk0
          go_wp2_with fail
          try rw [Exit.noGoto_ret]
          go_ret
          exact ⟨rfl, ⟨_, HS1⟩, HS2.out⟩
        · have hk1 : (1 : Int) < (k : Int) + 1 := by omega
          have hr0 : ¬ (rest : Int) = 0 := by have := HRM.out (by omega); omega
          clear hk0
          go_wp2_with fail
          try rw [Exit.noGoto_ret]
          go_ret
          exact ⟨rfl, ⟨_, HS1⟩, HS2.out⟩
    · rw [if_neg hr] at c9
      obtain ⟨b, hb⟩ : ∃ b : Nat, rest % 128 + 128 = b := ⟨_, rfl⟩
      rw [hb] at c9
      have hA : bits .and .u8 (b : Int) 127 = ((rest % 128 : Nat) : Int) := by rw [and127 b (by omega)]; congr 1; omega
      obtain ⟨d, hd⟩ : ∃ d : Nat, rest % 128 = d := ⟨_, rfl⟩
      rw [hd] at hA
      have hW : IntKind.u64.wrap (d : Int) = (d : Int) := by
        simp [IntKind.wrap, IntKind.bits, IntKind.signed]
        omega
      have hle : acc + 128 ^ k * d ≤ n := by
        rw [hsum]
        have : 128 ^ k * d ≤ 128 ^ k * rest := Nat.mul_le_mul_left _ (by omega)
        omega
      have HD2 := Lib.hid (HD.out.next hr)
      rw [hd] at HD2
      obtain ⟨P, hP⟩ : ∃ P, 128 ^ k * d = P := ⟨_, rfl⟩
      have hPW : IntKind.u64.wrap ((d : Int) * 2 ^ (7 * k)) = (P : Int) := by
        have e : (d : Int) * 2 ^ (7 * k) = (P : Int) := by
          rw [← hP, ← two7, Int.natCast_mul, Int.natCast_pow, Int.mul_comm]
          rfl
        rw [e]
        simp [IntKind.wrap, IntKind.bits, IntKind.signed]
        omega
      have hO : bits .or .u64 (acc : Int) (P : Int) = ((acc + P : Nat) : Int) := by
        have h := or_join acc d k hacc (by omega)
        rw [hP] at h
        exact h
      rw [hP] at HD2
      obtain ⟨A2, hA2⟩ : ∃ A2, acc + P = A2 := ⟨_, rfl⟩
      rw [hA2] at HD2 hO
      have hk8 : k + 1 < 9 := by
        refine Classical.byContradiction (fun h9 => ?_)
        have h8 : k = 8 := by omega
        have h1 : 1 * 128 ≤ rest := by omega
        rw [h8] at hsum
        have h2 : 128 ^ 8 * 128 ≤ 128 ^ 8 * rest := Nat.mul_le_mul_left _ (by omega)
        omega
      have hb128 : ¬ (b : Int) < 128 := by omega
      clear hP hget hsum hacc hkl hb hd hle hA2
      go_wp2_with fail
      go_roundw
      case rel => exact ⟨k + 1, A2, _, rfl, by go_num, by omega, HD2, trivial⟩
      case measure => simp [intOf]; omega

theorem rrLength (n : Nat) (hn : n < 9223372036854775808) (most : Nat) (hmo : n ≤ most) (hm2 : most < 9223372036854775808) (bs : List Int) (q : Nat) (v : Value) (w : World) (h : Rr w q v (encU n ++ bs)) :
    Calls Try.prog 42 #[.pointer (some ⟨q, 0, none⟩), .int .i64 most] w fun e w' => e = .returned (.int .i64 n) ∧ (∃ v', Hid (Rr w' q v' bs)) ∧ RrK w w' q := by
  have HU := Lib.hid (rrUint n hn bs q v w h)
  have hmI : ¬ (most : Int) < 0 := by omega
  have hnm : ¬ (most : Int) < (n : Int) := by omega
  clear h
  go_enter Try.func42, Try.ntmps42
  go_wp2_with fail
  refine HU.out.mono ?_
  rintro e w1 ⟨rfl, ⟨v1, H1⟩, k1⟩
  have c1 := H1.out.cell1
  have HK := Lib.hid k1
  clear k1 HU
  go_wp2_with fail
  go_ret
  exact ⟨rfl, ⟨_, H1⟩, HK.out⟩

theorem xorneg (m : Nat) (h : m < 4611686018427387904) : bits .and .u64 ((2 * m : Nat) : Int) 1 = 0 := by
  have e := u64_and_nat (2 * m) 1 (by omega) (by decide)
  rw [show (2 * m) &&& 1 = 0 by rw [Nat.and_one_is_mod]; omega] at e
  exact e
theorem xor00 (m : Nat) (h : m < 4611686018427387904) : bits .xor .i64 (m : Int) 0 = (m : Int) := by
  show IntKind.i64.wrap ((BitVec.ofInt 64 (m : Int) ^^^ BitVec.ofInt 64 0).toNat : Int) = _
  have e0 : BitVec.ofInt 64 0 = 0#64 := rfl
  rw [e0, BitVec.xor_zero]
  have e1 : (BitVec.ofInt 64 (m : Int)).toNat = m := by
    rw [BitVec.ofInt_natCast, BitVec.toNat_ofNat]
    exact Nat.mod_eq_of_lt (by omega)
  rw [e1, IntKind.wrap_i64]
  omega

theorem rrInt (m : Nat) (hm : m < 4611686018427387904) (bs : List Int) (q : Nat) (v : Value) (w : World) (h : Rr w q v (encU (2 * m) ++ bs)) :
    Calls Try.prog 43 #[.pointer (some ⟨q, 0, none⟩)] w fun e w' => e = .returned (.int .i64 m) ∧ (∃ v', Hid (Rr w' q v' bs)) ∧ RrK w w' q := by
  have HU := Lib.hid (rrUint (2 * m) (by omega) bs q v w h)
  have h1 := xorneg m hm
  obtain ⟨u, hu⟩ : ∃ u, 2 * m = u := ⟨_, rfl⟩
  rw [hu] at HU h1
  have hd : (u : Int) / 2 = (m : Int) := by omega
  have hx := xor00 m hm
  clear h
  go_enter Try.func43, Try.ntmps43
  go_wp2_with fail
  refine HU.out.mono ?_
  rintro e w1 ⟨rfl, ⟨v1, H1⟩, k1⟩
  have HK := Lib.hid k1
  clear k1 HU hu
  go_wp2_with fail
  go_ret
  exact ⟨rfl, ⟨_, H1⟩, HK.out⟩

theorem rrEnd (q : Nat) (v : Value) (w : World) (h : Rr w q v []) :
    Calls Try.prog 33 #[.pointer (some ⟨q, 0, none⟩)] w fun e w' => e = .returned (.int .i64 0) ∧ w = w' := by
  have c0 := h.cell0
  have c1 := h.cell1
  obtain ⟨a, cap, rfl, -, -, -⟩ := h.row.open
  clear h
  rw [List.length_nil] at c0
  go_enter Try.func33, Try.ntmps33
  go_wp2_with fail
  go_ret
  exact ⟨rfl, rfl⟩

theorem newReader (xs : List Int) (v : Value) (w : World) (hx : IsBts w v xs) (hb : xs.length ≤ 1000000) :
    Calls Try.prog 30 #[v] w fun e w' => ∃ q, e = .returned (.pointer (some ⟨q, 0, none⟩)) ∧ w.heap.size ≤ q ∧ (∃ v', Hid (Rr w' q v' xs)) ∧ Below w.heap.size w w' := by
  have HC := Lib.hid (cloneB xs v w hx hb)
  obtain ⟨a, cap, rfl, -, -, -⟩ := hx.open
  clear hx
  go_enter Try.func30, Try.ntmps30
  go_wp2_with fail
  refine HC.out.mono ?_
  rintro e w1 ⟨v1, rfl, ho, hb1⟩
  have hlt : ∀ k, v1.ownBlock = some k → k < w1.heap.size := fun k hk => (ho.lt k hk).2
  have HR : Hid (Rr (w1.alloc (.cells #[v1, .int .i64 0] 69)) w1.heap.size v1 xs) :=
    ⟨World.alloc_heap_new w1 _, (IsBts.of_owns ho).below ((Below.refl _ _).alloc (Nat.le_refl _) _), hlt⟩
  have HB := Lib.hid (hb1.alloc hb1.size (.cells #[v1, .int .i64 0] 69))
  have hsz := hb1.size
  obtain ⟨a1, c1, rfl, -, -⟩ := owns_slice ho
  clear ho hb1 HC hlt
  go_wp2_with fail
  go_ret
  exact ⟨_, rfl, hsz, ⟨_, HR⟩, HB.out⟩

set_option maxHeartbeats 1000000 in
set_option maxRecDepth 100000 in
theorem rrInts (ms : List Nat) (hms : ∀ m ∈ ms, m < 4611686018427387904) (most : Nat) (hmo : ms.length ≤ most) (hm2 : most ≤ 1000000) (bs : List Int) (q : Nat) (v : Value) (w : World) (h : Rr w q v (encU ms.length ++ (encL ms ++ bs))) :
    Calls Try.prog 32 #[.pointer (some ⟨q, 0, none⟩), .int .i64 most] w fun e w' => ∃ v', e = .returned v' ∧ IsInts w' v' (ms.map (fun (m : Nat) => (m : Int))) ∧ (∃ u, Hid (Rr w' q u bs)) ∧ RrK w w' q := by
  have HL := Lib.hid (rrLength ms.length (by omega) most hmo (by omega) (encL ms ++ bs) q v w h)
  have hq := h.lt
  have HMS := Lib.hid hms
  obtain ⟨XS, hXS⟩ : ∃ XS, ms.map (fun (m : Nat) => (m : Int)) = XS := ⟨_, rfl⟩
  have HXS := Lib.hid hXS
  have HXL : Hid (XS.length = ms.length) := by show _ = _; rw [← hXS, List.length_map]
  rw [hXS]
  clear h hms hXS
  go_enter Try.func32, Try.ntmps32
  go_wp2_with fail
  refine HL.out.mono ?_
  rintro e w1 ⟨rfl, ⟨v1, H1⟩, k1⟩
  have HK := Lib.hid k1
  clear k1 HL
  go_wp2_with fail
  go_loopw [5, 6] (fun o i wr => ∃ (k : Nat) (vo u : Value), vo = o ∧ i = .int .i64 ((ms.length - k : Nat) : Int) ∧ k ≤ ms.length ∧ Hid (wr.ownsRow w.heap.size 3 1 vo k (ints (XS.take k))) ∧ Hid (Rr wr q u (encL (ms.drop k) ++ bs)) ∧ Hid (RrK w wr q)) (fun _ i _ => (intOf i).toNat)
  case atStart => exact ⟨0, _, v1, rfl, rfl, Nat.zero_le _, World.ownsRow_nil _ _ _ _, H1, HK⟩
  case round =>
    obtain ⟨k, vo, u, rfl, rfl, hk, HO, HR, HK2⟩ := hrel
    have c1 := HR.out.cell1
    obtain ⟨ao, co, rfl, -, -⟩ := owns_slice HO.out
    by_cases hkl : k < ms.length
    · have hkI : (0 : Int) < ((ms.length - k : Nat) : Int) := by omega
      have ek : IntKind.i64.wrap (((ms.length - k : Nat) : Int) - 1) = ((ms.length - (k + 1) : Nat) : Int) := by rw [IntKind.wrap_i64]; omega
      have hdr : encL (ms.drop k) = encU (2 * ms[k]) ++ encL (ms.drop (k + 1)) := by rw [List.drop_eq_getElem_cons hkl]; rfl
      have hr := HR.out
      rw [hdr, List.append_assoc] at hr
      have hu := rrInt ms[k] (HMS.out _ (List.getElem_mem hkl)) (encL (ms.drop (k + 1)) ++ bs) q u wr hr
      have HTK : Hid (ints (XS.take (k + 1)) = ints (XS.take k) ++ [.int .i64 (ms[k] : Int)]) := by
        show _ = _
        rw [List.take_succ_eq_append_getElem (by rw [HXL.out]; exact hkl)]
        simp [ints, ← HXS.out]
      have HU := Lib.hid hu
      clear hu hdr hr
      generalize ms[k] = m at *
      obtain ⟨L, hL⟩ : ∃ L, ms.length - k = L := ⟨_, rfl⟩
      rw [hL] at hkI ek ⊢
      obtain ⟨L2, hL2⟩ : ∃ L2, ms.length - (k + 1) = L2 := ⟨_, rfl⟩
      rw [hL2] at ek
      have hLL : L2 < L := by omega
      have HL2 := Lib.hid hL2
      clear hL hL2
      have HLM : Hid (∀ (W : World), Rd (W.alloc (.cells #[.int .i64 (m : Int)] 3)) (.slice (some ⟨W.heap.size, 0, none⟩) 1 1) 1 1 [.int .i64 (m : Int)]) := fun W => Rd.lit W #[.int .i64 (m : Int)] 3 1 1 rfl (by unfold maxLen; omega)
      have HO1 : Hid (∀ u ∈ [Value.int .i64 (m : Int)], u.oneCell' = true) := fun u hu => by rw [List.mem_singleton] at hu; subst hu; rfl
      have HN1 : Hid (k + 1 ≤ maxLen) := (by show _ ≤ _; unfold maxLen; omega)
      have HN2 : Hid ((k + 1) * 8 ≤ 140737488355328) := (by show _ ≤ _; omega)
      go_wp2_with fail
      refine HU.out.mono ?_
      rintro e w2 ⟨rfl, ⟨u2, H2⟩, k2⟩
      have ho2 : w2.ownsRow w.heap.size 3 1 (.slice ao k co) k (ints (XS.take k)) := HO.out.kept k2 (.inr (fun e => by have := (HO.out.lt _ e).1; omega))
      have HO2 := Lib.hid ho2
      have HK3 := Lib.hid (HK2.out.trans k2)
      clear k2 ho2 HU
      go_wp2_with (at_builtin; go_must (refine wpList_append_rd rfl _ _ 22 rfl w.heap.size 3 _ 1 8 Try.underlying22 infoIw rfl (by decide) (.slice ao k co) k (ints (XS.take k)) rfl (HO2.out.alloc _) _ 1 [.int .i64 (m : Int)] rfl (HLM.out _) HO1.out HN1.out HN2.out ?b3 ?_))
      case b3 => have := HK3.out.size; first | omega | (simp; omega)
      intro v4 w4 hv4 hg4
      rw [← HTK.out] at hv4
      have HO4 := Lib.hid hv4
      have hown : ∀ k', (Value.slice ao k co).ownBlock = some k' → w.heap.size ≤ k' := fun k' hk' => (HO2.out.lt k' hk').1
      have hg5 : w2.grownBy w4 (Value.slice ao k co).ownBlock := (World.grownBy_alloc _ _ _).trans hg4
      have HK4 : Hid (RrK w w4 q) := ⟨hg5.os.trans HK3.out.os, hg5.tape.trans HK3.out.tape, hg5.output.trans HK3.out.output, Nat.le_trans HK3.out.size hg5.size, fun k' hk' hq' => by
        rw [hg5.block k' (Nat.lt_of_lt_of_le hk' HK3.out.size) (fun e => by have := hown k' e.symm; omega)]
        exact HK3.out.block k' hk' hq'⟩
      have HR4 : Hid (Rr w4 q u2 (encL (ms.drop (k + 1)) ++ bs)) := by
        have hq2 := HK3.out.size
        have hne : (Value.slice ao k co).ownBlock ≠ some q := fun e => by have := hown _ e; omega
        refine ⟨(hg5.block q H2.out.lt (fun e => hne e.symm)).trans H2.out.box, Rd.same H2.out.row (fun k' hk' hv' => hg5.block k' hk' (fun e => ?_)), H2.out.apart⟩
        have h1 := hown _ e.symm
        have h2 := H2.out.apart _ hv'
        omega
      obtain ⟨a4, c4, rfl, -, -⟩ := owns_slice hv4
      clear hv4 hg4 hg5 hown
      go_wp2_with fail
      go_roundw
      case rel => exact ⟨k + 1, _, _, rfl, by rw [HL2.out], by omega, HO4, HR4, HK4⟩
      case measure => simp [intOf]; omega
    · have hke : k = ms.length := by omega
      subst hke
      have hkI : ¬ (0 : Int) < ((ms.length - ms.length : Nat) : Int) := by omega
      rw [← HXL.out, List.take_length] at HO
      rw [List.drop_length] at HR
      go_wp2_with fail
      go_ret
      have HI : Hid (IsInts wr (.slice ao XS.length co) XS) := IsInts.of_owns HO.out
      rw [HXL.out] at HI
      exact ⟨_, rfl, HI.out, ⟨_, HR⟩, HK2.out⟩

end Go.Proofs.Ytkcmkpljpmfiaaa
