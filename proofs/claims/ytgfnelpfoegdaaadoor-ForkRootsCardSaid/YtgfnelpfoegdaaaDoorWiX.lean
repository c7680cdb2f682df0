/-
  The wire format in plain words: the bytes of a number, and what a reader makes of them. No program in sight.
  Bytes in memory; a writer of the wire format: Uint, Int, Done.
-/
import Derived.Test.YtgfnelpfoegdaaaDoorMem
import Derived.Test.YtgfnelpfoegdaaaDoorChecked
import Derived.RangeFuncBox
import Derived.Laws.BitsLemmas
import Derived.Laws.BitsAllLaws
namespace Go.Proofs.YtgfnelpfoegdaaaDoor

/-- The bytes of an unsigned number. -/
def encU (n : Nat) : List Int := if h : n < 128 then [(n : Int)] else ((n % 128 + 128 : Nat) : Int) :: encU (n / 128)
termination_by n
decreasing_by omega

theorem encU_small {n : Nat} (h : n < 128) : encU n = [(n : Int)] := by unfold encU; rw [dif_pos h]
theorem encU_big {n : Nat} (h : ¬ n < 128) : encU n = ((n % 128 + 128 : Nat) : Int) :: encU (n / 128) := by conv => lhs; unfold encU; rw [dif_neg h]
theorem encU_pos (n : Nat) : 1 ≤ (encU n).length := by unfold encU; split <;> simp
theorem encU_len : ∀ (n k : Nat), n < 128 ^ (k + 1) → (encU n).length ≤ k + 1
  | n, 0, h => by rw [encU_small (by omega)]; simp
  | n, k + 1, h => by
    by_cases hn : n < 128
    · rw [encU_small hn]; simp
    · rw [encU_big hn, List.length_cons]
      have := encU_len (n / 128) k (by rw [Nat.pow_succ] at h; omega)
      omega
theorem encU_byte : ∀ (k n : Nat), n ≤ k → ∀ b ∈ encU n, 0 ≤ b ∧ b < 256
  | k, n, hk, b, hb => by
    by_cases h : n < 128
    · rw [encU_small h] at hb
      simp at hb
      omega
    · rw [encU_big h] at hb
      rcases List.mem_cons.1 hb with rfl | hb
      · omega
      · cases k with
        | zero => omega
        | succ k => exact encU_byte k (n / 128) (by omega) b hb

/-- Behind k bytes of n's encoding: what was taken, and what is left. -/
structure DecAt (n : Nat) (k : Nat) (acc : Nat) (rest : Nat) : Prop where
  sum : n = acc + 128 ^ k * rest
  lt : acc < 128 ^ k
  tail : (encU n).drop k = encU rest
  more : 0 < k → 0 < rest
theorem DecAt.start (n : Nat) : DecAt n 0 0 n := ⟨by simp, by simp, by simp, fun h => absurd h (Nat.lt_irrefl _)⟩
theorem DecAt.get {n k acc rest : Nat} (h : DecAt n k acc rest) : ∃ hk : k < (encU n).length, (encU n)[k] = if rest < 128 then (rest : Int) else ((rest % 128 + 128 : Nat) : Int) := by
  have hp := encU_pos rest
  have hl : ((encU n).drop k).length = (encU rest).length := by rw [h.tail]
  rw [List.length_drop] at hl
  have hk : k < (encU n).length := by omega
  refine ⟨hk, ?_⟩
  have e : ((encU n).drop k)[0]? = (encU rest)[0]? := by rw [h.tail]
  rw [List.getElem?_drop, Nat.add_zero, List.getElem?_eq_getElem hk] at e
  by_cases hr : rest < 128
  · rw [if_pos hr]
    rw [encU_small hr] at e
    simpa using e
  · rw [if_neg hr]
    rw [encU_big hr] at e
    simpa using e
theorem DecAt.next {n k acc rest : Nat} (h : DecAt n k acc rest) (hr : ¬ rest < 128) : DecAt n (k + 1) (acc + 128 ^ k * (rest % 128)) (rest / 128) := by
  have hd := Nat.div_add_mod rest 128
  refine ⟨?_, ?_, ?_, fun _ => by omega⟩
  · rw [h.sum, Nat.pow_succ]
    have : 128 ^ k * rest = 128 ^ k * (128 * (rest / 128) + rest % 128) := by rw [hd]
    rw [this, Nat.mul_add]
    have e : 128 ^ k * (128 * (rest / 128)) = 128 ^ k * 128 * (rest / 128) := by rw [Nat.mul_assoc]
    rw [e]
    omega
  · have h1 := h.lt
    have h2 : rest % 128 ≤ 127 := by omega
    have h3 : 128 ^ k * (rest % 128) ≤ 128 ^ k * 127 := Nat.mul_le_mul_left _ h2
    rw [Nat.pow_succ]
    omega
  · rw [← List.drop_drop, h.tail, encU_big hr]
    rfl
theorem DecAt.last {n k acc rest : Nat} (h : DecAt n k acc rest) (hr : rest < 128) : n = acc + 128 ^ k * rest ∧ (encU n).length = k + 1 := by
  refine ⟨h.sum, ?_⟩
  have hl : ((encU n).drop k).length = 1 := by rw [h.tail, encU_small hr]; rfl
  rw [List.length_drop] at hl
  omega

end Go.Proofs.YtgfnelpfoegdaaaDoor

namespace Go.Proofs.YtgfnelpfoegdaaaDoor
open Go.RowKit

def bts (xs : List Int) : List Value := xs.map (Value.int .u8)
theorem bts_len (xs : List Int) : (bts xs).length = xs.length := List.length_map _
theorem bts_append (xs ys : List Int) : bts (xs ++ ys) = bts xs ++ bts ys := List.map_append
theorem bts_one (xs : List Int) : ∀ u ∈ bts xs, u.oneCell' = true := fun u hu => by
  obtain ⟨x, -, rfl⟩ := List.mem_map.1 hu
  rfl
def IsBts (w : World) (v : Value) (xs : List Int) : Prop := Rd w v 1 xs.length (bts xs)
theorem IsBts.below {w w' : World} {v : Value} {xs : List Int} (h : IsBts w v xs) (hb : Below w.heap.size w w') : IsBts w' v xs := Rd.below h hb
theorem IsBts.of_owns {w : World} {B e n : Nat} {v : Value} {xs : List Int} (h : w.ownsRow B e 1 v n (bts xs)) : IsBts w v xs := by
  have hl := h.1
  rw [bts_len, Nat.mul_one] at hl
  subst hl
  exact Rd.of_owns h
theorem IsBts.open {w : World} {v : Value} {xs : List Int} (h : IsBts w v xs) : ∃ a cap, v = .slice a xs.length cap ∧ xs.length ≤ maxLen ∧ xs.length ≤ cap ∧ ∀ k (hk : k < xs.length), ∃ b off, a = some ⟨b, off, none⟩ ∧ w.cell? ⟨b, off + k, none⟩ = some (.int .u8 xs[k]) := by
  obtain ⟨h1, h2, a, cap, rfl, hn, hc⟩ := h
  refine ⟨a, cap, rfl, h2, hn, fun k hk => hc k _ ?_⟩
  simp [bts, hk]
theorem IsBts.drop {w : World} {b o cap : Nat} {xs : List Int} (h : IsBts w (.slice (some ⟨b, o, none⟩) xs.length cap) xs) (k : Nat) (hk : k ≤ xs.length) : IsBts w (.slice (some ⟨b, o + k, none⟩) (xs.length - k) (cap - k)) (xs.drop k) := by
  obtain ⟨h1, h2, a, cap', e, hn, hc⟩ := h
  simp only [Value.slice.injEq, true_and] at e
  obtain ⟨rfl, rfl⟩ := e
  refine ⟨by simp [bts], by rw [List.length_drop]; omega, _, _, by rw [List.length_drop], by rw [List.length_drop]; omega, fun j u hu => ⟨b, o + k, rfl, ?_⟩⟩
  have e1 : (bts xs)[k + j]? = some u := by
    rw [← hu]
    unfold bts
    rw [List.getElem?_map, List.getElem?_map, List.getElem?_drop]
  obtain ⟨b', o', e2, hcell⟩ := hc (k + j) u e1
  simp only [Option.some.injEq, Addr.mk.injEq, and_true] at e2
  obtain ⟨rfl, rfl⟩ := e2
  rw [Nat.add_assoc]
  exact hcell
theorem infoB : (Tryd.prog.info? 5).map (fun i => (i.zero, i.size, i.bytes)) = some (some (.int .u8 0), 1, 1) := by kernel_rfl

/-- A writer behind q, that has collected bs; its bytes lie from B on. -/
structure Wr (W : World) (B q : Nat) (v : Value) (bs : List Int) : Prop where
  box : Boxed W q 57 v
  row : W.ownsRow B 5 1 v bs.length (bts bs)
  from_ : B ≤ q
theorem Wr.new (W : World) : Wr (W.alloc (.cells #[.slice none 0 0] 57)) W.heap.size W.heap.size (.slice none 0 0) [] := ⟨Boxed.new _ _ _, World.ownsRow_nil _ _ _ _, Nat.le_refl _⟩
theorem Wr.below {W W' : World} {B q : Nat} {v : Value} {bs : List Int} (h : Wr W B q v bs) (hb : Below W.heap.size W W') : Wr W' B q v bs :=
  ⟨(hb.block q h.box.lt).trans h.box, owns_below h.row hb, h.from_⟩

/-- What a writer's work leaves alone: every block but q that holds no bytes. -/
structure WrK (w w' : World) (q : Nat) : Prop where
  size : w.heap.size ≤ w'.heap.size
  keep : ∀ k, k < w.heap.size → k ≠ q → (∀ cur fr, w.heap[k]? ≠ some (.cells cur 5 fr)) → w'.heap[k]? = w.heap[k]?
theorem WrK.refl (w : World) (q : Nat) : WrK w w q := ⟨Nat.le_refl _, fun _ _ _ _ => rfl⟩
theorem WrK.trans {w w1 w2 : World} {q : Nat} (h : WrK w w1 q) (h' : WrK w1 w2 q) : WrK w w2 q :=
  ⟨Nat.le_trans h.size h'.size, fun k hk hq ht => by
    have e := h.keep k hk hq ht
    rw [h'.keep k (Nat.lt_of_lt_of_le hk h.size) hq (fun cur fr => by rw [e]; exact ht cur fr), e]⟩
theorem WrK.rd {w w' : World} {q : Nat} (h : WrK w w' q) {v : Value} {s n : Nat} {cs : List Value} (hr : Rd w v s n cs)
    (hk : ∀ k, v.ownBlock = some k → k ≠ q ∧ ∀ cur fr, w.heap[k]? ≠ some (.cells cur 5 fr)) : Rd w' v s n cs :=
  hr.same fun k hl hv => h.keep k hl (hk k hv).1 (hk k hv).2
theorem owns_type {w : World} {B e s n : Nat} {v : Value} {xs : List Value} (h : w.ownsRow B e s v n xs) {k : Nat} (hk : v.ownBlock = some k) : ∃ cur fr, w.heap[k]? = some (.cells cur e fr) := by
  rcases h.2 with ⟨rfl, _⟩ | ⟨g, cap, cur, rfl, _, hg, _⟩
  · cases hk
  · have e := Option.some.inj hk
    subst e
    exact ⟨_, _, hg⟩

theorem Wr.add {w W w4 : World} {B q : Nat} {u v4 : Value} {xs : List Int} {x : Int} {o : Obj} (h : Wr W B q u xs) (hb : Below B w W)
    (hv : w4.ownsRow B 5 1 v4 (xs.length + 1) (bts xs ++ [.int .u8 x])) (hg : (W.alloc o).grownBy w4 u.ownBlock) :
    Wr (w4.setCell ⟨q, 0, none⟩ v4) B q v4 (xs ++ [x]) ∧ Below B w (w4.setCell ⟨q, 0, none⟩ v4) ∧ WrK W (w4.setCell ⟨q, 0, none⟩ v4) q := by
  have hbox : Boxed w4 q 57 u := (h.box.alloc o).kept hg (h.box.not_row (by decide) h.row)
  have hBW : B ≤ W.heap.size := Nat.le_trans h.from_ (Nat.le_of_lt h.box.lt)
  have hb1 : Below B w (W.alloc o) := hb.alloc hBW o
  have hr1 := h.row.alloc o
  refine ⟨⟨hbox.set v4, ?_, h.from_⟩, (below_append hb1 hr1 hg (by simp; omega)).setCell (p := ⟨q, 0, none⟩) h.from_ _, ?_, fun k hk hq ht => ?_⟩
  rotate_left
  · have := hg.size
    simp at this ⊢
    omega
  · rw [show (w4.setCell ⟨q, 0, none⟩ v4).heap[k]? = w4.heap[k]? from Below.heap_setCell _ _ _ _ (fun e => hq e)]
    have h1 := hg.block k (by simp; omega) (fun e => by
      obtain ⟨cur, fr, e2⟩ := owns_type hr1 e.symm
      exact ht cur fr (by rw [← e2]; exact ((World.grownBy_alloc W o none).block k hk (by simp)).symm))
    rw [h1]
    exact (World.grownBy_alloc W o none).block k hk (by simp)
  have hne := hbox.not_row (by decide) hv
  have hk := hv.kept (grownBy_setCell' w4 q v4) (.inr (fun e => hne e.symm))
  rw [bts_append, List.length_append]
  exact hk
theorem or128 (a : Nat) (h : a < 256) : bits .or .u8 (a : Int) 128 = ((a % 128 + 128 : Nat) : Int) := by
  have e := u8_or_nat a 128 h (by decide)
  have d : ∀ x, x < 256 → x ||| 128 = x % 128 + 128 := by decide +kernel
  rw [d a h] at e
  exact e

set_option maxHeartbeats 1000000 in
set_option maxRecDepth 100000 in
theorem wrUint (n : Nat) (hn : n < 18446744073709551616) (bs : List Int) (B q : Nat) (v : Value) (w : World) (h : Wr w B q v bs) (hl : bs.length ≤ 1000000) :
    Calls Tryd.prog 50 #[.pointer (some ⟨q, 0, none⟩), .int .u64 n] w fun e w' => e = .returned (.tuple #[]) ∧ ∃ v', Hid (Wr w' B q v' (bs ++ encU n)) ∧ Below B w w' ∧ WrK w w' q := by
  have HE : Hid ((encU n).length ≤ 10) := encU_len n 9 (by omega)
  have HW := Lib.hid h
  have hBw : B ≤ w.heap.size := Nat.le_trans h.from_ (Nat.le_of_lt h.box.lt)
  clear h
  go_enter Tryd.func50, Tryd.ntmps50
  go_wp2_with fail
  go_loopw [1] (fun x wr => ∃ (rest : Nat) (acc : List Int) (u : Value), x = .int .u64 rest ∧ rest < 18446744073709551616 ∧ Hid (encU n = acc ++ encU rest) ∧ Hid (Wr wr B q u (bs ++ acc)) ∧ Hid (Below B w wr) ∧ Hid (WrK w wr q)) (fun x _ => (intOf x).toNat)
  case atStart => exact ⟨n, [], v, rfl, hn, rfl, by simpa using HW, Lib.hid (Below.refl _ _), Lib.hid (WrK.refl _ _)⟩
  case round =>
    obtain ⟨rest, acc, u, rfl, hr, HEN, HWR, HB, HK⟩ := hrel
    have hal : acc.length + (encU rest).length ≤ 10 := by have h1 := HE.out; have h2 := HEN.out; rw [h2, List.length_append] at h1; exact h1
    obtain ⟨xs, hxs⟩ : ∃ xs, bs ++ acc = xs := ⟨_, rfl⟩
    have hxl : xs.length ≤ 1000010 := by rw [← hxs, List.length_append]; omega
    rw [hxs] at HWR
    have HXS := Lib.hid hxs
    clear hxs
    have c0 := HWR.out.box.cell
    have f0 := HWR.out.box.frozen
    obtain ⟨a, cap, rfl, -, -⟩ := owns_slice HWR.out.row
    have hsz := HWR.out.from_
    have hlt := HWR.out.box.lt
    have HLB : Hid (∀ (W : World) (z : Nat) (x : Int), W.heap.size = z → Rd (W.alloc (.cells #[.int .u8 x] 5)) (.slice (some ⟨z, 0, none⟩) 1 1) 1 1 [.int .u8 x]) := fun W z x hz => by subst hz; exact Rd.lit W #[.int .u8 x] 5 1 1 rfl (by unfold maxLen; omega)
    have HO1 : Hid (∀ (x : Int), ∀ u ∈ [Value.int .u8 x], u.oneCell' = true) := fun x u hu => by rw [List.mem_singleton] at hu; subst hu; rfl
    have HN1 : Hid (xs.length + 1 ≤ maxLen) := (by show _ ≤ _; unfold maxLen; omega)
    by_cases h128 : 128 ≤ rest
    · have h128I : (128 : Int) ≤ (rest : Int) := by omega
      have hor : bits .or .u8 ((rest : Int) % 256) 128 = ((rest % 128 + 128 : Nat) : Int) := by
        have h := or128 (rest % 256) (by omega)
        rw [show rest % 256 % 128 = rest % 128 by omega] at h
        rw [← h]
        rfl
      have HEB : Hid (encU n = (acc ++ [((rest % 128 + 128 : Nat) : Int)]) ++ encU (rest / 128)) := by
        show _ = _
        rw [HEN.out, encU_big (by omega), List.append_assoc]
        rfl
      obtain ⟨bb, hbb⟩ : ∃ bb : Int, bb = ((rest % 128 + 128 : Nat) : Int) := ⟨_, rfl⟩
      rw [← hbb] at hor HEB
      clear hbb
      go_wp2_with (at_builtin; go_must (refine wpList_append_rd rfl _ _ 53 rfl B 5 _ 1 1 Tryd.underlying53 infoB rfl (by decide) (.slice a xs.length cap) xs.length (bts xs) rfl (HWR.out.row.alloc _) _ 1 [.int .u8 bb] rfl (HLB.out _ _ _ rfl) (HO1.out _) HN1.out (by omega) ?b3 ?_))
      case b3 => first | omega | (simp; omega)
      intro v4 w4 hv4 hg4
      obtain ⟨hW4, hB4, hK4⟩ := HWR.out.add HB.out hv4 hg4
      obtain ⟨a4, c4, rfl, -, -⟩ := owns_slice hv4
      rw [show xs ++ [bb] = bs ++ (acc ++ [bb]) by rw [← HXS.out, List.append_assoc]] at hW4
      have HW4 := Lib.hid hW4
      have HB4 := Lib.hid hB4
      have HK4 := Lib.hid (HK.out.trans hK4)
      have f4 : w4.frozen? ⟨q, 0, none⟩ = false := ((HWR.out.box.alloc _).kept hg4 (HWR.out.box.not_row (by decide) HWR.out.row)).frozen
      obtain ⟨x4, hx4⟩ : ∃ x, w4.cell? ⟨q, 0, none⟩ = some x := ⟨_, ((HWR.out.box.alloc _).kept hg4 (HWR.out.box.not_row (by decide) HWR.out.row)).cell⟩
      clear hv4 hg4 hW4 hB4 hK4
      go_wp2_with fail
      go_roundw
      case rel => exact ⟨rest / 128, _, _, by go_num, by omega, HEB, HW4, HB4, HK4⟩
      case measure => simp [intOf]; omega
    · have h128I : ¬ (128 : Int) ≤ (rest : Int) := by omega
      have hwr : (rest : Int) % 256 = (rest : Int) := by omega
      have HEB : Hid (xs ++ [(rest : Int)] = bs ++ encU n) := by
        show _ = _
        rw [HEN.out, encU_small (by omega), ← HXS.out, List.append_assoc]
      go_wp2_with (at_builtin; go_must (refine wpList_append_rd rfl _ _ 53 rfl B 5 _ 1 1 Tryd.underlying53 infoB rfl (by decide) (.slice a xs.length cap) xs.length (bts xs) rfl (HWR.out.row.alloc _) _ 1 [.int .u8 (rest : Int)] rfl (HLB.out _ _ _ rfl) (HO1.out _) HN1.out (by omega) ?b3 ?_))
      case b3 => first | omega | (simp; omega)
      intro v4 w4 hv4 hg4
      obtain ⟨hW4, hB4, hK4⟩ := HWR.out.add HB.out hv4 hg4
      obtain ⟨a4, c4, rfl, -, -⟩ := owns_slice hv4
      rw [HEB.out] at hW4
      have HW4 := Lib.hid hW4
      have HB4 := Lib.hid hB4
      have HK4 := Lib.hid (HK.out.trans hK4)
      have f4 : w4.frozen? ⟨q, 0, none⟩ = false := ((HWR.out.box.alloc _).kept hg4 (HWR.out.box.not_row (by decide) HWR.out.row)).frozen
      obtain ⟨x4, hx4⟩ : ∃ x, w4.cell? ⟨q, 0, none⟩ = some x := ⟨_, ((HWR.out.box.alloc _).kept hg4 (HWR.out.box.not_row (by decide) HWR.out.row)).cell⟩
      clear hv4 hg4 hW4 hB4 hK4 hwr
      go_wp2_with fail
      go_end0
      exact ⟨rfl, _, HW4, HB4.out, HK4.out⟩

theorem xor0 (m : Nat) (h : m < 4611686018427387904) : bits .xor .u64 ((m : Int) * 2) ((m : Int) / 9223372036854775808) = ((2 * m : Nat) : Int) := by
  have e := u64_xor_nat (2 * m) 0 (by omega) (by decide)
  rw [Nat.xor_zero] at e
  rw [← e, show (m : Int) / 9223372036854775808 = ((0 : Nat) : Int) by omega, show (m : Int) * 2 = ((2 * m : Nat) : Int) by omega]

theorem wrInt (m : Nat) (hm : m < 4611686018427387904) (bs : List Int) (B q : Nat) (v : Value) (w : World) (h : Wr w B q v bs) (hl : bs.length ≤ 1000000) :
    Calls Tryd.prog 25 #[.pointer (some ⟨q, 0, none⟩), .int .i64 m] w fun e w' => e = .returned (.tuple #[]) ∧ ∃ v', Hid (Wr w' B q v' (bs ++ encU (2 * m))) ∧ Below B w w' ∧ WrK w w' q := by
  have hu := wrUint (2 * m) (by omega) bs B q v w h hl
  rw [show ((2 * m : Nat) : Int) = 2 * (m : Int) by omega] at hu
  have HU := Lib.hid hu
  clear h hu
  have hx := xor0 m hm
  go_enter Tryd.func25, Tryd.ntmps25
  go_wp2_with fail
  refine HU.out.mono ?_
  rintro e w1 ⟨rfl, v1, H1, b1, k1⟩
  have HB := Lib.hid b1
  have HK := Lib.hid k1
  clear b1 k1 HU
  go_wp2_with fail
  go_end0
  exact ⟨rfl, _, H1, HB.out, HK.out⟩

/-! ### Done, and bytes.Clone -/
theorem cloneB (xs : List Int) (v : Value) (w : World) (hx : IsBts w v xs) (hb : xs.length ≤ 1000000) :
    Calls Tryd.prog 54 #[v] w fun e w' => ∃ v', e = .returned v' ∧ w'.ownsRow w.heap.size 5 1 v' xs.length (bts xs) ∧ Below w.heap.size w w' := by
  obtain ⟨a, cap, rfl, hcap, hcase⟩ := Rd.source hx
  rcases hcase with ⟨rfl, h0⟩ | ⟨ad, rfl, -⟩
  · have hz : xs = [] := by
      have h1 := bts_len xs
      rw [h0] at h1
      exact List.eq_nil_of_length_eq_zero (by simpa using h1.symm)
    subst hz
    have he := fun w : World => Lib.run_eql_slice_nil (P := Tryd.prog) w 53 5 none 0 cap 0 0 Tryd.underlying53
    go_enter Tryd.func54, Tryd.ntmps54
    go_wp2
    go_ret
    exact ⟨_, rfl, World.ownsRow_nil _ _ _ _, Below.refl _ _⟩
  · have he := fun w : World => Lib.run_eql_slice_nil (P := Tryd.prog) w 53 5 (some ad) xs.length cap 0 0 Tryd.underlying53
    have HX := Lib.hid hx
    clear hx
    go_enter Tryd.func54, Tryd.ntmps54
    go_wp2_with (at_builtin; refine wpList_append_rd rfl _ _ 53 rfl w.heap.size 5 _ 1 1 Tryd.underlying53 infoB rfl (by decide) _ 0 [] rfl ?own _ xs.length (bts xs) rfl ?src (bts_one _) ?b1 ?b2 ?b3 ?_)
    case own => exact World.ownsRow_made w #[] 0 (Nat.le_refl _) (Nat.zero_le _) rfl
    case src => exact HX.out.below ((Below.refl _ _).alloc (Nat.le_refl _) _)
    case b1 => unfold maxLen; omega
    case b2 => omega
    case b3 => simp
    intro v' w1 hown hg
    have hbel : Below w.heap.size w w1 := below_append ((Below.refl _ _).alloc (Nat.le_refl _) _) (World.ownsRow_made w #[] 0 (Nat.le_refl _) (Nat.zero_le _) rfl : (w.alloc (.cells #[] 5)).ownsRow w.heap.size 5 1 _ 0 []) hg (by simp)
    have HO := Lib.hid (show w1.ownsRow w.heap.size 5 1 v' xs.length (bts xs) from by simpa using hown)
    have HB := Lib.hid hbel
    clear hown hg hbel
    go_wp2
    go_ret
    exact ⟨_, rfl, HO.out, HB.out⟩

theorem wrDone (bs : List Int) (B q : Nat) (v : Value) (w : World) (h : Wr w B q v bs) (hl : bs.length ≤ 1000000) :
    Calls Tryd.prog 27 #[.pointer (some ⟨q, 0, none⟩)] w fun e w' => ∃ v', e = .returned v' ∧ IsBts w' v' bs ∧ Below w.heap.size w w' := by
  have c0 := h.box.cell
  have HC := Lib.hid (cloneB bs v w (IsBts.of_owns h.row) hl)
  obtain ⟨a, cap, rfl, -, -⟩ := owns_slice h.row
  clear h
  go_enter Tryd.func27, Tryd.ntmps27
  go_wp2_with fail
  refine HC.out.mono ?_
  rintro e w1 ⟨v1, rfl, ho, hb⟩
  have HI := Lib.hid (IsBts.of_owns ho)
  have HB := Lib.hid hb
  clear ho hb HC
  go_wp2_with fail
  go_ret
  exact ⟨_, rfl, HI.out, HB.out⟩

end Go.Proofs.YtgfnelpfoegdaaaDoor
