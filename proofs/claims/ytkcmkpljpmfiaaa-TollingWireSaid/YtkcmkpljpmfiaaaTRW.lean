/-
  The law TollingWire: its walk.
-/
import Derived.Test.YtkcmkpljpmfiaaaFun
import Derived.Test.YtkcmkpljpmfiaaaGen
import Derived.Test.YtkcmkpljpmfiaaaWiR
import Derived.Test.YtkcmkpljpmfiaaaCalm
namespace Go.Proofs.Ytkcmkpljpmfiaaa
open Go.RowKit

def spN (s : Int × Int) : List Nat := [s.1.toNat, s.2.toNat]
def encSp (s : Int × Int) : List Int := encU (spN s).length ++ encL (spN s)
def encS : List (Int × Int) → List Int
  | [] => []
  | s :: r => encSp s ++ encS r
theorem encS_append : ∀ (a b : List (Int × Int)), encS (a ++ b) = encS a ++ encS b
  | [], _ => rfl
  | s :: a, b => by show encSp s ++ encS (a ++ b) = (encSp s ++ encS a) ++ encS b; rw [encS_append a b, List.append_assoc]
theorem encS_take {l : List (Int × Int)} {k : Nat} (hk : k < l.length) : encS (l.take (k + 1)) = encS (l.take k) ++ (encU (spN l[k]).length ++ encL (spN l[k])) := by
  rw [List.take_succ_eq_append_getElem hk, encS_append]
  show encS _ ++ (encSp _ ++ []) = _
  rw [List.append_nil]
  rfl
theorem encS_drop {l : List (Int × Int)} {k : Nat} (hk : k < l.length) : encS (l.drop k) = encU (spN l[k]).length ++ (encL (spN l[k]) ++ encS (l.drop (k + 1))) := by
  rw [List.drop_eq_getElem_cons hk]
  show encSp _ ++ _ = _
  unfold encSp
  rw [List.append_assoc]
theorem spN_in {s : Int × Int} (h : 0 ≤ s.1 ∧ s.1 ≤ 3652058 ∧ 0 ≤ s.2 ∧ s.2 ≤ 3652058) : ∀ m ∈ spN s, m < 4611686018427387904 := fun m hm => by
  simp [spN] at hm
  omega
theorem encS_len : ∀ (l : List (Int × Int)), (∀ s ∈ l, 0 ≤ s.1 ∧ s.1 ≤ 3652058 ∧ 0 ≤ s.2 ∧ s.2 ≤ 3652058) → (encS l).length ≤ 30 * l.length
  | [], _ => by simp [encS]
  | s :: r, h => by
    have h1 := encS_len r (fun x hx => h x (by simp [hx]))
    have h2 := encL_len (spN s) (spN_in (h s (by simp)))
    have h3 := encU_len (spN s).length 9 (by simp [spN])
    show (encSp s ++ encS r).length ≤ _
    unfold encSp
    rw [List.length_append, List.length_append, List.length_cons]
    have : (spN s).length = 2 := rfl
    omega

set_option maxHeartbeats 4000000 in
set_option maxRecDepth 100000 in
theorem tollingWire_any (l : List Int) (v : Value) (n how : Int) (w : World) (hx : IsInts w v l) (hl : ∀ x ∈ l, I64 x) (hn : I64 n) (hh : I64 how) :
    Calls Try.prog 11 #[v, .int .i64 n, .int .i64 how] w fun e w' => e = .returned (.bool true) ∧ Below w.heap.size w w' := by
  have hb := baseF_in n how
  have HBA := Lib.hid (base_any n how hn hh w)
  obtain ⟨D, hD⟩ : ∃ D, baseF n how = D := ⟨_, rfl⟩
  rw [hD] at hb HBA
  have HSP := Lib.hid (spans_any l v D w hx hl ⟨hb.1, by omega⟩)
  have hsv : ValSp (spansF l D) := fun s hs => (spansF_in l D s hs).2.1
  have hsB : SpB (spansF l D) := fun s hs => by have := spansF_in l D s hs; omega
  have hsl := spansF_len l D
  have hin := mrg_in hsv (lo := 0) (hi := 3652058) (fun s hs => by have := spansF_in l D s hs; omega)
  have hml := mrg_len (spansF l D)
  obtain ⟨hmv, hma, -⟩ := mrg_law hsv
  have HMF := Lib.hid (fun v w hx => merge_fun (spansF l D) v w hx (by omega) hsB hsv)
  obtain ⟨A, hA⟩ : ∃ A, mrg (spansF l D) = A := ⟨_, rfl⟩
  rw [hA] at hin hml hmv hma HMF
  have hal : A.length ≤ 6 := by omega
  have HIN : Hid (∀ s ∈ A, 0 ≤ s.1 ∧ s.1 ≤ 3652058 ∧ 0 ≤ s.2 ∧ s.2 ≤ 3652058 ∧ s.1 ≤ s.2) := fun s hs => by have h1 := hin s hs; have h2 := hmv s hs; omega
  have HAP := Lib.hid hma
  obtain ⟨a1, c1, rfl, -, -, -⟩ := hx.open
  clear hx hl hn hh hD hsv hsB hsl hin hml hmv hma hA
  go_enter Try.func11, Try.ntmps11
  go_wp2_with fail
  refine HBA.out.mono ?_
  rintro e w0 ⟨rfl, rfl⟩
  go_wp2_with fail
  refine HSP.out.mono ?_
  rintro e w1 ⟨v1, rfl, hv1, b1⟩
  have HM1 := Lib.hid (HMF.out v1 w1 hv1)
  have HB1 := Lib.hid b1
  obtain ⟨a2, c2, rfl, -, -, -⟩ := hv1.open
  clear hv1 b1 HMF HSP HBA
  go_wp2_with fail
  refine HM1.out.mono ?_
  rintro e w3 ⟨v3, rfl, hv3, b3⟩
  have HB3 := Lib.hid (Below.to HB1.out b3 HB1.out.size)
  have HVM := Lib.hid hv3
  have hlen3 := hv3.open
  obtain ⟨a3, c3, rfl, -, -, -⟩ := hlen3
  clear hv3 b3 HM1
  have HW0 := Lib.hid (Wr.new w3)
  have HB4 : Hid (Below w3.heap.size w3 (w3.alloc (.cells #[.slice none 0 0] 49))) := (Below.refl _ _).alloc (Nat.le_refl _) _
  have HB5 := Lib.hid (Below.to HB3.out HB4.out HB3.out.size)
  obtain ⟨W4, hW4⟩ : ∃ W, W = w3.alloc (.cells #[.slice none 0 0] 49) := ⟨_, rfl⟩
  obtain ⟨B, hB⟩ : ∃ B, B = w3.heap.size := ⟨_, rfl⟩
  have HBW : Hid (B < W4.heap.size) := by show _ < _; rw [hW4, hB]; simp
  rw [← hW4] at HW0 HB5 HB4
  rw [← hB] at HW0
  have HVF : Hid (∀ W, Below B W4 W → IsSps W (.slice a3 A.length c3) A) := fun W hW => HVM.out.below (HB4.out.trans (by rw [← hB]; exact hW))
  have HBS : Hid (w.heap.size ≤ B) := by show _ ≤ _; rw [hB]; exact HB3.out.size
  have HWE := Lib.hid hW4
  have HBE := Lib.hid hB
  clear hW4 hB HB3 HVM HB4
  go_wp2_with fail
  rw [← HWE.out, ← HBE.out]
  clear HWE HBE
  go_loopw [9] (fun i wr => ∃ (k : Nat) (u : Value), i = .int .i64 k ∧ k ≤ A.length ∧ Hid (Wr wr B B u (encS (A.take k))) ∧ Hid (Below B W4 wr)) (fun i _ => A.length - (intOf i).toNat)
  case atStart => exact ⟨0, _, rfl, Nat.zero_le _, by simpa [encS] using HW0, Lib.hid (Below.refl _ _)⟩
  case round =>
    obtain ⟨k, u, rfl, hk, HWR, HB⟩ := hrel
    have ek : IntKind.i64.wrap ((k : Int) + 1) = ((k + 1 : Nat) : Int) := by rw [IntKind.wrap_i64]; omega
    by_cases hkl : k < A.length
    · have hkI : (k : Int) < (A.length : Int) := by omega
      have hsk := HIN.out A[k] (List.getElem_mem hkl)
      have hll := encS_len (A.take k) (fun s hs => by have := HIN.out s (List.mem_of_mem_take hs); omega)
      rw [List.length_take] at hll
      have HTK := Lib.hid (encS_take hkl)
      have HSN := Lib.hid (spN_in (s := A[k]) (by omega))
      obtain ⟨b9, o9, q9, e9, hbl, c0, c1'⟩ := (HVF.out wr HB.out).at hkl
      simp only [Value.slice.injEq, true_and] at e9
      obtain ⟨rfl, -⟩ := e9
      have HCF : Hid (∀ X, Below wr.heap.size wr X → X.cell? ⟨b9, o9 + k * 2, none⟩ = some (.int .i64 A[k].1) ∧ X.cell? ⟨b9, o9 + k * 2 + 1, none⟩ = some (.int .i64 A[k].2)) := fun X hX => ⟨(hX.cell (p := ⟨b9, o9 + k * 2, none⟩) hbl).trans c0, (hX.cell (p := ⟨b9, o9 + k * 2 + 1, none⟩) hbl).trans c1'⟩
      have HCG : Hid (∀ X, Below B W4 X → X.cell? ⟨b9, o9 + k * 2, none⟩ = some (.int .i64 A[k].1) ∧ X.cell? ⟨b9, o9 + k * 2 + 1, none⟩ = some (.int .i64 A[k].2)) := fun X hX => by
        obtain ⟨b8, o8, q8, e8, -, d0, d1⟩ := (HVF.out X hX).at hkl
        simp only [Value.slice.injEq, Option.some.injEq, Addr.mk.injEq, and_true, true_and] at e8
        obtain ⟨⟨rfl, rfl⟩, -⟩ := e8
        exact ⟨d0, d1⟩
      obtain ⟨s, hs⟩ : ∃ s, A[k] = s := ⟨_, rfl⟩
      rw [hs] at hsk HTK HSN c0 c1' HCF HCG
      obtain ⟨s1, s2⟩ := s
      simp only at hsk c0 c1' HCF HCG
      have KD := Lib.hid (HCF.out wr.drew ((Below.refl _ _).drew))
      have hXb : Below wr.heap.size wr (wr.alloc (.cells #[.int .i64 s1, .int .i64 s2] 3)).drew := ((Below.refl _ _).alloc (Nat.le_refl _) _).drew
      have hms : (spN (s1, s2)).map (fun (m : Nat) => (m : Int)) = [s1, s2] := by
        simp [spN]
        omega
      have hci := wrInts (spN (s1, s2)) HSN.out (by simp [spN]) (.slice (some ⟨wr.heap.size, 0, none⟩) 2 2) (encS (A.take k)) B B u _ (HWR.out.below hXb)
        (by rw [hms]; exact Rd.below (Rd.lit wr #[.int .i64 s1, .int .i64 s2] 3 1 2 rfl (by unfold maxLen; omega)) ((Below.refl _ _).drew))
        (fun k' hk' => by
          have e := Option.some.inj hk'
          subst e
          refine ⟨Nat.ne_of_gt HWR.out.box.lt, fun cur fr h => ?_⟩
          have h2 : (wr.alloc (.cells #[.int .i64 s1, .int .i64 s2] 3)).heap[wr.heap.size]? = some (.cells cur 5 fr) := h
          rw [World.alloc_heap_new] at h2
          injection h2 with h2
          injection h2 with _ h2 _
          exact absurd h2 (by decide))
        (by omega)
      rw [show (spN (s1, s2)).length = 2 from rfl] at hci HTK
      rw [← HTK.out] at hci
      have HCI := Lib.hid hci
      have HXB := Lib.hid (HB.out.trans (hXb.mono (by have := HWR.out.box.lt; omega)))
      clear hs hci hXb hms
      go_wp2_with fail
      go_region_held3 (fun w' => w'.cell? ⟨b9, o9 + k * 2, none⟩ = some (.int .i64 s1) ∧ w'.cell? ⟨b9, o9 + k * 2 + 1, none⟩ = some (.int .i64 s2))
        (first
          | exact KD.out
          | exact HCG.out _ HB7.out
          | go_keep)
        (first
          | (go_at_call 29
             refine HCI.out.mono ?_
             rintro e w7 ⟨rfl, v7, H7, b7, -⟩
             have HB7 : Hid (Below B W4 w7) := HXB.out.trans b7
             clear b7))
      clear KD HCF HCG HCI HXB
      go_wp2_with fail
      go_roundw
      case rel => exact ⟨k + 1, _, by go_num, by omega, H7, HB7⟩
      case measure => simp [intOf]; omega
    · have hke : k = A.length := by omega
      subst hke
      have hkI : ¬ (A.length : Int) < (A.length : Int) := by omega
      rw [List.take_length] at HWR
      have hll := encS_len A (fun s hs => by have := HIN.out s hs; omega)
      have HDO := Lib.hid (wrDone (encS A) B B u wr HWR.out (by omega))
      obtain ⟨W5, rfl⟩ : ∃ W5 : World, W5 = wr := ⟨_, rfl⟩
      go_wp2_with fail
      refine HDO.out.mono ?_
      rintro e w8 ⟨v8, rfl, hv8, b8⟩
      have HNR := Lib.hid (newReader (encS A) v8 w8 hv8 (by omega))
      have HB8 := Lib.hid (HB.out.trans (b8.mono (by have := HWR.out.box.lt; omega)))
      obtain ⟨a8, c8, rfl, -, -, -⟩ := hv8.open
      clear hv8 b8 HDO
      go_wp2_with fail
      refine HNR.out.mono ?_
      rintro e w9 ⟨q, rfl, hq, ⟨v9, H9⟩, b9⟩
      have HB9 := Lib.hid (HB8.out.trans (b9.mono (by have := HB8.out.size; have := HBW.out; omega)))
      have hqB : B ≤ q := by have := HB8.out.size; have := HBW.out; omega
      clear b9 HNR
      go_wp2_with fail
      go_loopw [11, 12] (fun i _ wr => ∃ (k : Nat) (u : Value), i = .int .i64 k ∧ k ≤ A.length ∧ Hid (Rr wr q u (encS (A.drop k))) ∧ Hid (Below B W4 wr)) (fun i _ _ => A.length - (intOf i).toNat)
      case atStart => exact ⟨0, _, rfl, Nat.zero_le _, by simpa using H9, HB9⟩
      case round =>
        obtain ⟨k, u, rfl, hk, HRR, HBR⟩ := hrel
        have ek : IntKind.i64.wrap ((k : Int) + 1) = ((k + 1 : Nat) : Int) := by rw [IntKind.wrap_i64]; omega
        by_cases hkl : k < A.length
        · have hkI : (k : Int) < (A.length : Int) := by omega
          have hsk := HIN.out A[k] (List.getElem_mem hkl)
          have hrr := HRR.out
          rw [encS_drop hkl] at hrr
          have hci := rrInts (spN A[k]) (spN_in (s := A[k]) (by omega)) 2 (by simp [spN]) (by omega) (encS (A.drop (k + 1))) q u wr hrr
          have hms : (spN A[k]).map (fun (m : Nat) => (m : Int)) = [A[k].1, A[k].2] := by
            simp [spN]
            omega
          rw [hms] at hci
          have HAK : Hid (∀ j (hj : j < A.length), j + 1 = k → A[j].2 + 1 < A[k].1) := fun j hj hjk => List.pairwise_iff_getElem.1 HAP.out j k hj hkl (by omega)
          have HCG : Hid (∀ X, Below B W4 X → ∃ b9 o9, a3 = some ⟨b9, o9, none⟩ ∧ X.cell? ⟨b9, o9 + k * 2, none⟩ = some (.int .i64 A[k].1) ∧ X.cell? ⟨b9, o9 + k * 2 + 1, none⟩ = some (.int .i64 A[k].2)) := fun X hX => by
            obtain ⟨b8, o8, q8, e8, -, d0, d1⟩ := (HVF.out X hX).at hkl
            simp only [Value.slice.injEq, true_and] at e8
            exact ⟨b8, o8, e8.1, d0, d1⟩
          have HCJ : Hid (∀ X, Below B W4 X → ∀ j (hj : j < A.length), ∃ b9 o9, a3 = some ⟨b9, o9, none⟩ ∧ X.cell? ⟨b9, o9 + j * 2 + 1, none⟩ = some (.int .i64 A[j].2)) := fun X hX j hj => by
            obtain ⟨b8, o8, q8, e8, -, d0, d1⟩ := (HVF.out X hX).at hj
            simp only [Value.slice.injEq, true_and] at e8
            exact ⟨b8, o8, e8.1, d1⟩
          obtain ⟨s, hs⟩ : ∃ s, A[k] = s := ⟨_, rfl⟩
          rw [hs] at hsk hci HCG HAK
          obtain ⟨s1, s2⟩ := s
          simp only at hsk hci HCG HAK
          have HCI := Lib.hid hci
          clear hs hci hrr hms
          go_wp2_with fail
          refine HCI.out.mono ?_
          rintro e w10 ⟨v10, rfl, hv10, ⟨u10, H10⟩, k10⟩
          have HB10 := Lib.hid (HBR.out.trans (k10.below hqB (by have := HBR.out.size; have := HBW.out; omega)))
          obtain ⟨a10, c10, e10, -, -, hc10⟩ := hv10.open
          obtain ⟨bx, ox, ex, x0⟩ := hc10 0 (by simp)
          obtain ⟨bx', ox', ex', x1⟩ := hc10 1 (by simp)
          subst ex
          simp only [Option.some.injEq, Addr.mk.injEq, and_true] at ex'
          obtain ⟨rfl, rfl⟩ := ex'
          simp only [List.getElem_cons_zero, List.getElem_cons_succ, Nat.add_zero, List.length_cons, List.length_nil] at x0 x1 e10
          subst e10
          obtain ⟨b9, o9, e9, c0, c1'⟩ := HCG.out w10 HB10.out
          subst e9
          have hs12 : ¬ s2 < s1 := by omega
          clear HCI HCG hv10 k10 hc10
          rcases Nat.eq_zero_or_pos k with hk0 | hk0
          · subst hk0
            simp only [Nat.zero_mul, Nat.add_zero] at c0 c1'
            clear HCJ HAK
            go_wp2_with fail
            refine wp_region_quiet_lit (by kernel_rfl) (by kernel_rfl) ?_
            apply Shut.out
            repeat (refine wpQuiet_step_h (fun K hK => ?_); go_simp; refine hK _ ?_; clear hK K)
            refine Shut.mk (wpQuiet_nil ?_)
            rintro _ ⟨nq, rfl⟩
            all_goals
              have HB13 : Hid (Below B W4 (w10.drewN nq)) := below_drewN HB10.out nq
              have HRR13 : Hid (Rr (w10.drewN nq) q u10 (encS (A.drop (0 + 1)))) := ⟨H10.out.box, H10.out.row.below (below_drewN (Below.refl _ _) nq), H10.out.apart⟩
              go_wp2_with fail
              go_roundw
              case rel => exact ⟨0 + 1, _, by go_num, by omega, HRR13, HB13⟩
              case measure => simp [intOf]; omega
          · obtain ⟨j, hjk⟩ : ∃ j, j + 1 = k := ⟨k - 1, by omega⟩
            have hjl : j < A.length := by omega
            obtain ⟨b8, o8, e8, d1⟩ := HCJ.out w10 HB10.out j hjl
            simp only [Option.some.injEq, Addr.mk.injEq, and_true] at e8
            obtain ⟨rfl, rfl⟩ := e8
            have hap := HAK.out j hjl hjk
            have hsj := HIN.out A[j] (List.getElem_mem hjl)
            obtain ⟨p2, hp2⟩ : ∃ p2, A[j].2 = p2 := ⟨_, rfl⟩
            rw [hp2] at d1 hap hsj
            have hsub : IntKind.i64.wrap ((k : Int) - 1) = (j : Int) := by rw [IntKind.wrap_i64]; omega
            have hwp : IntKind.i64.wrap (p2 + 2) = p2 + 2 := by rw [IntKind.wrap_i64]; omega
            have hlt : ¬ s1 < p2 + 2 := by omega
            have hjp : (0 : Int) < (k : Int) := by omega
            have hjI : (j : Int) < (A.length : Int) := by omega
            have hjd : decide ((0 : Int) < (k : Int)) = true := by simpa using hk0
            have hjd' : decide (0 < k) = true := by simpa using hk0
            have hld : decide (s1 < p2 + 2) = false := by simpa using hlt
            clear HCJ HAK hp2 hjk hk0
            go_wp2_with fail
            refine wp_region_quiet_lit (by kernel_rfl) (by kernel_rfl) ?_
            apply Shut.out
            repeat (refine wpQuiet_step_h (fun K hK => ?_); go_simp; refine hK _ ?_; clear hK K)
            refine Shut.mk (wpQuiet_nil ?_)
            rintro _ ⟨nq, rfl⟩
            all_goals
              have HB13 : Hid (Below B W4 (w10.drewN nq)) := below_drewN HB10.out nq
              have HRR13 : Hid (Rr (w10.drewN nq) q u10 (encS (A.drop (k + 1)))) := ⟨H10.out.box, H10.out.row.below (below_drewN (Below.refl _ _) nq), H10.out.apart⟩
              go_wp2_with fail
              go_roundw
              case rel => exact ⟨k + 1, _, by go_num, by omega, HRR13, HB13⟩
              case measure => simp [intOf]; omega
        · have hke : k = A.length := by omega
          subst hke
          have hkI : ¬ (A.length : Int) < (A.length : Int) := by omega
          have hdr : encS (A.drop A.length) = [] := by rw [List.drop_length]; rfl
          rw [hdr] at HRR
          have HEN := Lib.hid (rrEnd q u wr HRR.out)
          go_wp2_with fail
          refine HEN.out.mono ?_
          rintro e w' ⟨rfl, rfl⟩
          go_wp2_with fail
          refine (lives_any _).mono ?_
          rintro e w99 ⟨rfl, hb99⟩
          have HB99 : Hid (Below w.heap.size w w99) := HB5.out.trans ((HBR.out.mono HBS.out).trans (hb99.mono (by have := HBR.out.size; have := HBW.out; have := HBS.out; omega)))
          clear hb99
          go_wp2_with fail
          go_ret
          exact ⟨rfl, HB99.out⟩

end Go.Proofs.Ytkcmkpljpmfiaaa
