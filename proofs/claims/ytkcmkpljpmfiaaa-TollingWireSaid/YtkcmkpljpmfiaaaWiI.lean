/-
  A writer of the wire format: Ints.
-/
import Derived.Test.YtkcmkpljpmfiaaaWiM
namespace Go.Proofs.Ytkcmkpljpmfiaaa
open Go.RowKit

/-- The bytes of a list of numbers that are not negative. -/
def encL : List Nat → List Int
  | [] => []
  | m :: l => encU (2 * m) ++ encL l
theorem encL_append : ∀ (a b : List Nat), encL (a ++ b) = encL a ++ encL b
  | [], b => rfl
  | m :: a, b => by show encU (2 * m) ++ encL (a ++ b) = (encU (2 * m) ++ encL a) ++ encL b; rw [encL_append a b, List.append_assoc]
theorem encL_take {l : List Nat} {k : Nat} (hk : k < l.length) : encL (l.take (k + 1)) = encL (l.take k) ++ encU (2 * l[k]) := by
  rw [List.take_succ_eq_append_getElem hk, encL_append]
  show encL _ ++ (encU _ ++ []) = _
  rw [List.append_nil]
theorem encL_len : ∀ (l : List Nat), (∀ m ∈ l, m < 4611686018427387904) → (encL l).length ≤ 10 * l.length
  | [], _ => by simp [encL]
  | m :: l, h => by
    have h1 := encU_len (2 * m) 9 (by have := h m (by simp); omega)
    have h2 := encL_len l (fun x hx => h x (by simp [hx]))
    show (encU (2 * m) ++ encL l).length ≤ _
    rw [List.length_append, List.length_cons]
    omega

set_option maxHeartbeats 1000000 in
set_option maxRecDepth 100000 in
theorem wrInts (ms : List Nat) (hms : ∀ m ∈ ms, m < 4611686018427387904) (hml : ms.length ≤ 100) (vs : Value) (bs : List Int) (B q : Nat) (v : Value) (w : World) (h : Wr w B q v bs) (hs : IsInts w vs (ms.map (fun (m : Nat) => (m : Int))))
    (hk : ∀ k, vs.ownBlock = some k → k ≠ q ∧ ∀ cur fr, w.heap[k]? ≠ some (.cells cur 5 fr)) (hl : bs.length ≤ 900000) :
    Calls Try.prog 29 #[.pointer (some ⟨q, 0, none⟩), vs] w fun e w' => e = .returned (.tuple #[]) ∧ ∃ v', Hid (Wr w' B q v' (bs ++ (encU ms.length ++ encL ms))) ∧ Below B w w' ∧ WrK w w' q := by
  have hu := wrUint ms.length (by omega) bs B q v w h (by omega)
  have HS := Lib.hid hs
  have HKV := Lib.hid hk
  have HMS := Lib.hid hms
  have hun := encU_len ms.length 9 (by omega)
  obtain ⟨a, cap, rfl, -, -, hc⟩ := hs.open
  rw [List.length_map] at *
  have HU := Lib.hid hu
  clear h hu hk hms hc
  go_enter Try.func29, Try.ntmps29
  go_wp2_with fail
  refine HU.out.mono ?_
  rintro e w1 ⟨rfl, v1, H1, b1, k1⟩
  have HB := Lib.hid b1
  have HK := Lib.hid k1
  clear b1 k1 HU
  go_wp2_with fail
  go_loopw [5, 13] (fun _ i wr => ∃ (k : Nat) (u : Value), i = .int .i64 k ∧ k ≤ ms.length ∧ Hid (Wr wr B q u (bs ++ (encU ms.length ++ encL (ms.take k)))) ∧ Hid (Below B w wr) ∧ Hid (WrK w wr q)) (fun _ i _ => ms.length - (intOf i).toNat)
  case atStart => exact ⟨0, v1, rfl, Nat.zero_le _, by simpa [encL] using H1, HB, HK⟩
  case round =>
    obtain ⟨k, u, rfl, hk, H2, HB2, HK2⟩ := hrel
    by_cases hkl : k < ms.length
    · have hkI : (k : Int) < (ms.length : Int) := by omega
      have ek : IntKind.i64.wrap ((k : Int) + 1) = ((k + 1 : Nat) : Int) := by rw [IntKind.wrap_i64]; omega
      obtain ⟨a', cap', e', -, -, hc⟩ := (IsInts.open (HK2.out.rd HS.out HKV.out))
      simp only [Value.slice.injEq, List.length_map, true_and] at e'
      obtain ⟨rfl, rfl⟩ := e'
      obtain ⟨b9, o9, rfl, c9⟩ := hc k (by rw [List.length_map]; exact hkl)
      rw [List.getElem_map] at c9
      have hll := encL_len (ms.take k) (fun m hm => HMS.out m (List.mem_of_mem_take hm))
      have hu := wrInt ms[k] (HMS.out _ (List.getElem_mem hkl)) (bs ++ (encU ms.length ++ encL (ms.take k))) B q u wr H2.out (by rw [List.length_append, List.length_append]; rw [List.length_take] at hll; omega)
      have HXE : Hid ((bs ++ (encU ms.length ++ encL (ms.take k))) ++ encU (2 * ms[k]) = bs ++ (encU ms.length ++ encL (ms.take (k + 1)))) := by
        show _ = _
        rw [encL_take hkl, List.append_assoc, List.append_assoc]
      have HU := Lib.hid hu
      clear hu hc hll
      generalize ms[k] = m at *
      go_wp2_with fail
      refine HU.out.mono ?_
      rintro e w2 ⟨rfl, v2, H3, b3, k3⟩
      rw [HXE.out] at H3
      have HB3 := Lib.hid (HB2.out.trans b3)
      have HK3 := Lib.hid (HK2.out.trans k3)
      clear b3 k3 HU
      go_wp2_with fail
      go_roundw
      case rel => exact ⟨k + 1, _, by go_num, by omega, H3, HB3, HK3⟩
      case measure => simp [intOf]; omega
    · have hke : k = ms.length := by omega
      subst hke
      have hkI : ¬ (ms.length : Int) < (ms.length : Int) := by omega
      rw [List.take_length] at H2
      go_wp2_with fail
      go_end0
      exact ⟨rfl, ⟨_, H2⟩, HB2.out, HK2.out⟩

end Go.Proofs.Ytkcmkpljpmfiaaa
