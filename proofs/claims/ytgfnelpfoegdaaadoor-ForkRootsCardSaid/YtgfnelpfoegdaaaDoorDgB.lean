/-
  digest.block: the chaining values after a block, in the words of its own operations. (Printed by wip/tools/gen_dgb.py.)
-/
import Derived.Test.YtgfnelpfoegdaaaDoorDgA
import Derived.Test.YtgfnelpfoegdaaaDoorWiX
import Derived.Deep.RegionHeld3
import Derived.StillTailTactics
namespace Go.Proofs.YtgfnelpfoegdaaaDoor
open Go.RowKit

def ldF2 (x c : Int) : Int := bits .or .u32 (x * 256 % 4294967296) (c % 4294967296)
def ldGo (b : List Int) (i : Nat) (W : List Int) : Nat → List Int
  | 0 => W
  | j + 1 => (ldGo b i W j).set i (ldF2 ((ldGo b i W j).getD i 0) (b.getD (4 * i + j) 0))
def ldAll (b : List Int) : Nat → List Int
  | 0 => List.replicate 64 0
  | i + 1 => ldGo b i (ldAll b i) 4
theorem ldGo_len (b : List Int) (i : Nat) (W : List Int) : ∀ j, (ldGo b i W j).length = W.length
  | 0 => rfl
  | j + 1 => by show ((ldGo b i W j).set i _).length = _; rw [List.length_set, ldGo_len b i W j]
theorem ldAll_len (b : List Int) : ∀ i, (ldAll b i).length = 64
  | 0 => by simp [ldAll]
  | i + 1 => by show (ldGo b i (ldAll b i) 4).length = _; rw [ldGo_len, ldAll_len b i]

def sch1 (z x : Int) : Int := (z + bits .xor .u32 (bits .xor .u32 (rotF x (rotS (-7))) (rotF x (rotS (-18)))) (x / 8)) % 4294967296
def sch2 (o u y : Int) : Int := (o + (u + bits .xor .u32 (bits .xor .u32 (rotF y (rotS (-17))) (rotF y (rotS (-19)))) (y / 1024))) % 4294967296
def schA (W : List Int) (t : Nat) : List Int := W.set t (sch1 (W.getD (t - 16) 0) (W.getD (t - 15) 0))
def schStep (W : List Int) (t : Nat) : List Int := (schA W t).set t (sch2 ((schA W t).getD t 0) ((schA W t).getD (t - 7) 0) (W.getD (t - 2) 0))
def schAll (W : List Int) : Nat → List Int
  | 0 => W
  | n + 1 => schStep (schAll W n) (16 + n)
theorem schA_len (W : List Int) (t : Nat) : (schA W t).length = W.length := by unfold schA; rw [List.length_set]
theorem schStep_len (W : List Int) (t : Nat) : (schStep W t).length = W.length := by unfold schStep; rw [List.length_set, schA_len]
theorem schAll_len (W : List Int) : ∀ n, (schAll W n).length = W.length
  | 0 => rfl
  | n + 1 => by show (schStep _ _).length = _; rw [schStep_len, schAll_len W n]

def oneF (V : List Int) (k wt : Int) : Int :=
  IntKind.u32.wrap (IntKind.u32.wrap (IntKind.u32.wrap (IntKind.u32.wrap (V.getD 7 0 + bits .xor .u32 (bits .xor .u32 (rotF (V.getD 4 0) (rotS (-6))) (rotF (V.getD 4 0) (rotS (-11)))) (rotF (V.getD 4 0) (rotS (-25)))) + bits .xor .u32 (V.getD 6 0) (bits .and .u32 (V.getD 4 0) (bits .xor .u32 (V.getD 5 0) (V.getD 6 0)))) + k) + wt)
def twoF (V : List Int) : Int :=
  IntKind.u32.wrap (bits .xor .u32 (bits .xor .u32 (rotF (V.getD 0 0) (rotS (-2))) (rotF (V.getD 0 0) (rotS (-13)))) (rotF (V.getD 0 0) (rotS (-22))) + bits .or .u32 (bits .and .u32 (V.getD 0 0) (V.getD 1 0)) (bits .and .u32 (V.getD 2 0) (bits .or .u32 (V.getD 0 0) (V.getD 1 0))))
def rndStep (V : List Int) (k wt : Int) : List Int :=
  [(oneF V k wt + twoF V) % 4294967296, V.getD 0 0, V.getD 1 0, V.getD 2 0, (V.getD 3 0 + oneF V k wt) % 4294967296, V.getD 4 0, V.getD 5 0, V.getD 6 0]
def rndAll (KS W V : List Int) : Nat → List Int
  | 0 => V
  | n + 1 => rndStep (rndAll KS W V n) (KS.getD n 0) (W.getD n 0)
theorem rndAll_len (KS W V : List Int) (h : V.length = 8) : ∀ n, (rndAll KS W V n).length = 8
  | 0 => h
  | n + 1 => rfl
def addAll (H V : List Int) : Nat → List Int
  | 0 => H
  | n + 1 => (addAll H V n).set n (((addAll H V n).getD n 0 + V.getD n 0) % 4294967296)
theorem addAll_len (H V : List Int) : ∀ n, (addAll H V n).length = H.length
  | 0 => rfl
  | n + 1 => by show ((addAll H V n).set _ _).length = _; rw [List.length_set, addAll_len H V n]
/-- The chaining values after a block. -/
def blkF (KS h b : List Int) : List Int := addAll h (rndAll KS (schAll (ldAll b 16) 48) h 64) 8
theorem blkF_len (KS h b : List Int) (hh : h.length = 8) : (blkF KS h b).length = 8 := by unfold blkF; rw [addAll_len, hh]

theorem getD_at {xs : List Int} {i : Nat} (h : i < xs.length) : xs.getD i 0 = xs[i] := by rw [List.getD_eq_getElem?_getD, List.getElem?_eq_getElem h]; rfl

theorem rot_still (x k : Int) (w : World) : Calls Tryd.prog 71 #[.int .u32 x, .int .i64 k] w fun e w' => e = .returned (.int .u32 (rotF x (rotS k))) ∧ w' = w := (rotl_any x k w).mono fun _ _ h => ⟨h.1, h.2.symm⟩

/-- The call's own rows: h, the result, w. -/
structure BlkI (w wr : World) (P : Nat) (h z W : List Int) : Prop where
  rh : NRow wr .u32 P 86 h
  rz : NRow wr .u32 (P + 1) 86 z
  rw_ : NRow wr .u32 (P + 1 + 1) 105 W
  bel : Below P w wr
theorem BlkI.setW {w wr : World} {P : Nat} {h z W : List Int} (H : BlkI w wr P h z W) (i : Nat) (x : Int) : BlkI w (wr.setCell ⟨P + 1 + 1, i, none⟩ (.int .u32 x)) P h z (W.set i x) :=
  ⟨H.rh.other _ _ (by show P ≠ P + 1 + 1; omega), H.rz.other _ _ (by show P + 1 ≠ P + 1 + 1; omega), H.rw_.set i x, H.bel.setCell (p := ⟨P + 1 + 1, i, none⟩) (by show P ≤ P + 1 + 1; omega) _⟩
theorem BlkI.drew {w wr : World} {P : Nat} {h z W : List Int} (H : BlkI w wr P h z W) : BlkI w wr.drew P h z W := ⟨H.rh.drew, H.rz.drew, H.rw_.drew, H.bel.drew⟩
theorem BlkI.cell {w wr : World} {P : Nat} {h z W : List Int} (H : BlkI w wr P h z W) {i : Nat} (hi : i < W.length) : wr.cell? ⟨P + 1 + 1, i, none⟩ = some (.int .u32 (W.getD i 0)) := by rw [getD_at hi]; exact H.rw_.cell hi

theorem BlkI.below {w wr wr' : World} {P B : Nat} {h z W : List Int} (H : BlkI w wr P h z W) (hb : Below B wr wr') (hB : P + 1 + 1 < B) : BlkI w wr' P h z W :=
  ⟨H.rh.below hb (by omega), H.rz.below hb (by omega), H.rw_.below hb hB, H.bel.trans (hb.mono (by omega))⟩
/-- With v. -/
structure BlkV (w wr : World) (P Q : Nat) (h z W V : List Int) : Prop where
  i : BlkI w wr P h z W
  rv : NRow wr .u32 Q 86 V
  lt : P + 1 + 1 < Q
theorem BlkV.drew {w wr : World} {P Q : Nat} {h z W V : List Int} (H : BlkV w wr P Q h z W V) : BlkV w wr.drew P Q h z W V := ⟨H.i.drew, H.rv.drew, H.lt⟩
theorem BlkV.cellV {w wr : World} {P Q : Nat} {h z W V : List Int} (H : BlkV w wr P Q h z W V) {i : Nat} (hi : i < V.length) : wr.cell? ⟨Q, i, none⟩ = some (.int .u32 (V.getD i 0)) := by rw [getD_at hi]; exact H.rv.cell hi
theorem BlkV.cellH {w wr : World} {P Q : Nat} {h z W V : List Int} (H : BlkV w wr P Q h z W V) {i : Nat} (hi : i < h.length) : wr.cell? ⟨P, i, none⟩ = some (.int .u32 (h.getD i 0)) := by rw [getD_at hi]; exact H.i.rh.cell hi
theorem NRow.store {w : World} {k : IntKind} {g t : Nat} {xs ys : List Int} (h : NRow w k g t xs) : NRow (w.setRow g (ys.map (Value.int k)).toArray) k g t ys := setRow_heap w g _ _ t _ h
theorem BlkV.setV {w wr : World} {P Q : Nat} {h z W V : List Int} (H : BlkV w wr P Q h z W V) (V' : List Int) : BlkV w (wr.setRow Q (V'.map (Value.int .u32)).toArray) P Q h z W V' := by
  have h1 := H.lt
  have hb : Below Q wr (wr.setRow Q (V'.map (Value.int .u32)).toArray) := ⟨rfl, rfl, rfl, by simp, fun k hk => setRow_other wr Q k _ (by omega)⟩
  exact ⟨H.i.below hb h1, H.rv.store, h1⟩
theorem BlkV.setH {w wr : World} {P Q : Nat} {h z W V : List Int} (H : BlkV w wr P Q h z W V) (i : Nat) (x : Int) : BlkV w (wr.setCell ⟨P, i, none⟩ (.int .u32 x)) P Q (h.set i x) z W V :=
  ⟨⟨H.i.rh.set i x, H.i.rz.other _ _ (by show P + 1 ≠ P; omega), H.i.rw_.other _ _ (by show P + 1 + 1 ≠ P; omega), H.i.bel.setCell (p := ⟨P, i, none⟩) (Nat.le_refl _) _⟩, H.rv.other _ _ (by show Q ≠ P; have := H.lt; omega), H.lt⟩
theorem info8 : (Tryd.prog.info? 86).map (·.size) = some 8 := by kernel_rfl
theorem info64 : (Tryd.prog.info? 105).map (·.size) = some 64 := by kernel_rfl
theorem u32_one (xs : List Int) : (xs.map (Value.int .u32)).toArray.all (·.oneCell') = true := by simp [Value.oneCell']
theorem range_below {w w' : World} {b o B : Nat} {cs : List Value} (h : w.rangeAt b o cs) (hb : Below B w w') (hB : b < B) : w'.rangeAt b o cs := fun j v hv => (hb.cell (p := ⟨b, o + j, none⟩) hB).trans (h j v hv)

set_option maxHeartbeats 8000000 in
set_option maxRecDepth 100000 in
theorem block_any (KS h b : List Int) (hh : h.length = 8) (hk : KS.length = 64) (hb : 64 ≤ b.length) (v : Value) (w : World) (hx : IsBts w v b) (hg : w.rangeAt 0 0 (KS.map (Value.int .u32))) :
    Calls Tryd.prog 66 #[.agg (h.map (Value.int .u32)).toArray, v] w fun e w' => e = .returned (.agg ((blkF KS h b).map (Value.int .u32)).toArray) ∧ Below w.heap.size w w' := by
  obtain ⟨RES, hRES⟩ : ∃ R, blkF KS h b = R := ⟨_, rfl⟩
  rw [hRES]
  have HRE := Lib.hid hRES
  clear hRES
  have HX := Lib.hid hx
  obtain ⟨a, cap, rfl, hm, hcap, hc⟩ := hx.open
  have HC := Lib.hid hc
  have HG := Lib.hid hg
  obtain ⟨b9, o9, rfl, -⟩ := hc 0 (by omega)
  obtain ⟨L, hL⟩ : ∃ L, b.length = L := ⟨_, rfl⟩
  rw [hL] at hb hm hcap
  obtain ⟨P, hP⟩ : ∃ P, P = w.heap.size := ⟨_, rfl⟩
  obtain ⟨W0, hW0⟩ : ∃ W0, W0 = ((w.alloc (.cells (h.map (Value.int .u32)).toArray 86)).alloc (.cells #[.int .u32 0, .int .u32 0, .int .u32 0, .int .u32 0, .int .u32 0, .int .u32 0, .int .u32 0, .int .u32 0] 86)).alloc (.cells #[.int .u32 0, .int .u32 0, .int .u32 0, .int .u32 0, .int .u32 0, .int .u32 0, .int .u32 0, .int .u32 0, .int .u32 0, .int .u32 0, .int .u32 0, .int .u32 0, .int .u32 0, .int .u32 0, .int .u32 0, .int .u32 0, .int .u32 0, .int .u32 0, .int .u32 0, .int .u32 0, .int .u32 0, .int .u32 0, .int .u32 0, .int .u32 0, .int .u32 0, .int .u32 0, .int .u32 0, .int .u32 0, .int .u32 0, .int .u32 0, .int .u32 0, .int .u32 0, .int .u32 0, .int .u32 0, .int .u32 0, .int .u32 0, .int .u32 0, .int .u32 0, .int .u32 0, .int .u32 0, .int .u32 0, .int .u32 0, .int .u32 0, .int .u32 0, .int .u32 0, .int .u32 0, .int .u32 0, .int .u32 0, .int .u32 0, .int .u32 0, .int .u32 0, .int .u32 0, .int .u32 0, .int .u32 0, .int .u32 0, .int .u32 0, .int .u32 0, .int .u32 0, .int .u32 0, .int .u32 0, .int .u32 0, .int .u32 0, .int .u32 0, .int .u32 0] 105) := ⟨_, rfl⟩
  have HI : Hid (BlkI w W0 P h (List.replicate 8 0) (ldAll b 0)) := by
    have hz1 : (w.alloc (.cells (h.map (Value.int .u32)).toArray 86)).heap.size = P + 1 := by rw [hP]; simp
    have hz2 : ((w.alloc (.cells (h.map (Value.int .u32)).toArray 86)).alloc (.cells #[.int .u32 0, .int .u32 0, .int .u32 0, .int .u32 0, .int .u32 0, .int .u32 0, .int .u32 0, .int .u32 0] 86)).heap.size = P + 1 + 1 := by rw [hP]; simp
    have h1 := NRow.new w .u32 86 h
    have h2 : NRow _ _ _ _ _ := NRow.new (w.alloc (.cells (h.map (Value.int .u32)).toArray 86)) .u32 86 (List.replicate 8 0)
    have h3 : NRow _ _ _ _ _ := NRow.new ((w.alloc (.cells (h.map (Value.int .u32)).toArray 86)).alloc (.cells #[.int .u32 0, .int .u32 0, .int .u32 0, .int .u32 0, .int .u32 0, .int .u32 0, .int .u32 0, .int .u32 0] 86)) .u32 105 (List.replicate 64 0)
    rw [show ((List.replicate 8 (0 : Int)).map (Value.int .u32)).toArray = #[.int .u32 0, .int .u32 0, .int .u32 0, .int .u32 0, .int .u32 0, .int .u32 0, .int .u32 0, .int .u32 0] from rfl, hz1] at h2
    rw [show ((List.replicate 64 (0 : Int)).map (Value.int .u32)).toArray = #[.int .u32 0, .int .u32 0, .int .u32 0, .int .u32 0, .int .u32 0, .int .u32 0, .int .u32 0, .int .u32 0, .int .u32 0, .int .u32 0, .int .u32 0, .int .u32 0, .int .u32 0, .int .u32 0, .int .u32 0, .int .u32 0, .int .u32 0, .int .u32 0, .int .u32 0, .int .u32 0, .int .u32 0, .int .u32 0, .int .u32 0, .int .u32 0, .int .u32 0, .int .u32 0, .int .u32 0, .int .u32 0, .int .u32 0, .int .u32 0, .int .u32 0, .int .u32 0, .int .u32 0, .int .u32 0, .int .u32 0, .int .u32 0, .int .u32 0, .int .u32 0, .int .u32 0, .int .u32 0, .int .u32 0, .int .u32 0, .int .u32 0, .int .u32 0, .int .u32 0, .int .u32 0, .int .u32 0, .int .u32 0, .int .u32 0, .int .u32 0, .int .u32 0, .int .u32 0, .int .u32 0, .int .u32 0, .int .u32 0, .int .u32 0, .int .u32 0, .int .u32 0, .int .u32 0, .int .u32 0, .int .u32 0, .int .u32 0, .int .u32 0, .int .u32 0] from rfl, hz2] at h3
    rw [← hP] at h1
    rw [hW0]
    refine ⟨(h1.alloc _).alloc _, h2.alloc _, h3, ?_⟩
    rw [hP]
    exact (((Below.refl _ _).alloc (Nat.le_refl _) _).alloc (by simp) _).alloc (by simp; omega) _
  have HP := Lib.hid hP
  have HW0 := Lib.hid hW0
  have HLL := Lib.hid hL
  clear hx hc hg hP hW0 hL
  go_enter Tryd.func66, Tryd.ntmps66
  go_wp2_with fail
  rw [HLL.out, ← HP.out]
  rw [HP.out, ← HW0.out, ← HP.out]
  go_loopw [20] (fun i wr => ∃ k : Nat, i = .int .i64 k ∧ k ≤ 16 ∧ Hid (BlkI w wr P h (List.replicate 8 0) (ldAll b k))) (fun i _ => 16 - (intOf i).toNat)
  case atStart => exact ⟨0, rfl, by omega, HI⟩
  case round =>
    obtain ⟨k, rfl, hk16, HB⟩ := hrel
    have ek : IntKind.i64.wrap ((k : Int) + 1) = ((k + 1 : Nat) : Int) := by rw [IntKind.wrap_i64]; omega
    by_cases hkl : k < 16
    · have hkI : (k : Int) < 16 := by omega
      have e4 : IntKind.i64.wrap (4 * (k : Int)) = ((4 * k : Nat) : Int) := by rw [IntKind.wrap_i64]; omega
      have e8 : IntKind.i64.wrap (4 * (k : Int) + 4) = ((4 * k + 4 : Nat) : Int) := by rw [IntKind.wrap_i64]; omega
      have hc4 : ¬ cap = 4 * k := by omega
      have hle1 : 4 * k + 4 ≤ cap := by omega
      go_wp2_with fail
      rw [show 4 * k + 4 - 4 * k = 4 by omega]
      go_loopw [31] (fun i wr => ∃ j : Nat, i = .int .i64 j ∧ j ≤ 4 ∧ Hid (BlkI w wr P h (List.replicate 8 0) (ldGo b k (ldAll b k) j))) (fun i _ => 4 - (intOf i).toNat)
      case atStart => exact ⟨0, rfl, by omega, HB⟩
      case round =>
        obtain ⟨j, rfl, hj4, HB2⟩ := hrel
        have ej : IntKind.i64.wrap ((j : Int) + 1) = ((j + 1 : Nat) : Int) := by rw [IntKind.wrap_i64]; omega
        by_cases hjl : j < 4
        · have hjI : (j : Int) < 4 := by omega
          have hk64 : (k : Int) < 64 := by omega
          have hWl : (ldGo b k (ldAll b k) j).length = 64 := by rw [ldGo_len, ldAll_len]
          have c0 := HB2.out.cell (i := k) (by rw [hWl]; omega)
          have f0 := HB2.out.rw_.frozen k
          obtain ⟨a', cap', e', -, -, hc'⟩ := (HX.out.below (HB2.out.bel.mono (Nat.le_of_eq HP.out.symm))).open
          obtain ⟨b8, o8, e8, c8⟩ := hc' (4 * k + j) (by rw [HLL.out]; omega)
          simp only [Value.slice.injEq] at e'
          rw [e8] at e'
          simp only [Option.some.injEq, Addr.mk.injEq, and_true] at e'
          obtain ⟨⟨rfl, rfl⟩, -, -⟩ := e'
          rw [← getD_at (by rw [HLL.out]; omega), ← Nat.add_assoc] at c8
          have hn := HB2.out.setW k (ldF2 ((ldGo b k (ldAll b k) j).getD k 0) (b.getD (4 * k + j) 0))
          have hn2 : BlkI w (wr.setCell ⟨P + 1 + 1, k, none⟩ (.int .u32 (ldF2 ((ldGo b k (ldAll b k) j).getD k 0) (b.getD (4 * k + j) 0)))) P h (List.replicate 8 0) (ldGo b k (ldAll b k) (j + 1)) := hn
          unfold ldF2 at hn2
          obtain ⟨x, hx⟩ : ∃ x, (ldGo b k (ldAll b k) j).getD k 0 = x := ⟨_, rfl⟩
          obtain ⟨c, hc⟩ : ∃ c, b.getD (4 * k + j) 0 = c := ⟨_, rfl⟩
          rw [hx] at c0 hn2
          rw [hc] at c8 hn2
          have HN := Lib.hid hn2
          clear hn hn2 hx hc hc' e8 hWl
          go_wp2_with fail
          go_roundw
          case rel => exact ⟨j + 1, by go_num, by omega, HN⟩
          case measure => simp [intOf]; omega
        · have hje : j = 4 := by omega
          subst hje
          go_wp2_with fail
          go_roundw
          case rel => exact ⟨k + 1, by go_num, by omega, HB2⟩
          case measure => simp [intOf]; omega
    · have hke : k = 16 := by omega
      subst hke
      rw [show ((16 : Nat) : Int) = 16 from rfl]
      have HS : Hid (BlkI w wr P h (List.replicate 8 0) (schAll (ldAll b 16) 0)) := HB
      obtain ⟨S, hS⟩ : ∃ S, ldAll b 16 = S := ⟨_, rfl⟩
      have hSl : S.length = 64 := by rw [← hS, ldAll_len]
      rw [hS] at HS
      have HSE := Lib.hid hS
      clear HB hS
      obtain ⟨W1, rfl⟩ : ∃ W1 : World, W1 = wr := ⟨_, rfl⟩
      go_wp2_with fail
      go_loopw [9] (fun i wr => ∃ n : Nat, i = .int .i64 ((16 + n : Nat) : Int) ∧ n ≤ 48 ∧ Hid (BlkI w wr P h (List.replicate 8 0) (schAll S n))) (fun i _ => 64 - (intOf i).toNat)
      case atStart => exact ⟨0, rfl, by omega, HS⟩
      case round =>
        obtain ⟨n, rfl, hn48, HB⟩ := hrel
        obtain ⟨t, ht⟩ : ∃ t, 16 + n = t := ⟨_, rfl⟩
        rw [ht]
        have et : IntKind.i64.wrap ((t : Int) + 1) = ((t + 1 : Nat) : Int) := by rw [IntKind.wrap_i64]; omega
        by_cases htl : t < 64
        · have htI : (t : Int) < 64 := by omega
          have s15 : IntKind.i64.wrap ((t : Int) - 15) = ((t - 15 : Nat) : Int) := by rw [IntKind.wrap_i64]; omega
          have s2 : IntKind.i64.wrap ((t : Int) - 2) = ((t - 2 : Nat) : Int) := by rw [IntKind.wrap_i64]; omega
          have s16 : IntKind.i64.wrap ((t : Int) - 16) = ((t - 16 : Nat) : Int) := by rw [IntKind.wrap_i64]; omega
          have s7 : IntKind.i64.wrap ((t : Int) - 7) = ((t - 7 : Nat) : Int) := by rw [IntKind.wrap_i64]; omega
          have hWl : (schAll S n).length = 64 := by rw [schAll_len, hSl]
          obtain ⟨W, hW⟩ : ∃ W, schAll S n = W := ⟨_, rfl⟩
          have HNX : Hid (schAll S (n + 1) = schStep W t) := by show schStep (schAll S n) (16 + n) = _; rw [hW, ht]
          rw [hW] at HB hWl
          have c15 := HB.out.cell (i := t - 15) (by omega)
          have c2 := HB.out.cell (i := t - 2) (by omega)
          obtain ⟨i15, h15⟩ : ∃ i, t - 15 = i := ⟨_, rfl⟩
          obtain ⟨i2, h2⟩ : ∃ i, t - 2 = i := ⟨_, rfl⟩
          have q15 : (i15 : Int) < 64 := by omega
          have q2 : (i2 : Int) < 64 := by omega
          rw [h15] at c15 s15
          rw [h2] at c2 s2
          obtain ⟨x, hx⟩ : ∃ x, W.getD i15 0 = x := ⟨_, rfl⟩
          obtain ⟨y, hy⟩ : ∃ y, W.getD i2 0 = y := ⟨_, rfl⟩
          rw [hx] at c15
          rw [hy] at c2
          have HD := Lib.hid HB.out.drew
          obtain ⟨X1, hX1⟩ : ∃ X1, X1 = wr.drew := ⟨_, rfl⟩
          rw [← hX1] at HD
          have HX1 := Lib.hid hX1
          obtain ⟨i16, h16⟩ : ∃ i, t - 16 = i := ⟨_, rfl⟩
          have q16 : (i16 : Int) < 64 := by omega
          rw [h16] at s16
          have d16 := HD.out.cell (i := i16) (by omega)
          have dt := HD.out.cell (i := t) (by omega)
          have df := HD.out.rw_.frozen t
          obtain ⟨z, hz⟩ : ∃ z, W.getD i16 0 = z := ⟨_, rfl⟩
          obtain ⟨o, ho⟩ : ∃ o, W.getD t 0 = o := ⟨_, rfl⟩
          rw [hz] at d16
          rw [ho] at dt
          have dt2 : X1.drew.cell? ⟨P + 1 + 1, t, none⟩ = some (.int .u32 o) := dt
          have df2 : X1.drew.frozen? ⟨P + 1 + 1, t, none⟩ = false := df
          have d162 : X1.drew.cell? ⟨P + 1 + 1, i16, none⟩ = some (.int .u32 z) := d16
          have HA : Hid (schA W t = W.set t (sch1 z x)) := by show _ = _; unfold schA; rw [h16, h15, hz, hx]
          have HL := Lib.hid (show W.length = 64 from hWl)
          have HT := Lib.hid ht
          have H2 : Hid (schStep W t = (schA W t).set t (sch2 ((schA W t).getD t 0) ((schA W t).getD (t - 7) 0) y)) := by show _ = _; unfold schStep; rw [h2, hy]
          clear hX1 hW ht d16 dt df ho hz hx hy h16 hWl
          go_wp2_with fail
          go_region
          rw [← HX1.out]
          clear c15 c2 HB HX1
          go_wp2_with fail
          refine wp_region_still_tail 15 (by kernel_rfl) (by kernel_rfl) ?_
          simp only [List.take_succ_cons, List.take_zero, List.drop_succ_cons, List.drop_zero]
          repeat still_step
          still_call (rot_still _ _ _)
          repeat still_step
          still_call (rot_still _ _ _)
          repeat still_step
          refine wpStill_nil ?_
          change wpList _ _ _ _ _ X1.drew
          obtain ⟨Y1, hY1⟩ : ∃ Y1, Y1 = X1.drew := ⟨_, rfl⟩
          rw [← hY1] at dt2 df2 ⊢
          have HDY := Lib.hid HD.out.drew
          rw [← hY1] at HDY
          clear hY1 d162
          have HE := Lib.hid (HDY.out.setW t (sch1 z x))
          rw [← HA.out] at HE
          unfold sch1 at HE
          obtain ⟨X2, hX2⟩ : ∃ X2, X2 = Y1.setCell ⟨P + 1 + 1, t, none⟩ (.int .u32 ((z + bits .xor .u32 (bits .xor .u32 (rotF x (rotS (-7))) (rotF x (rotS (-18)))) (x / 8)) % 4294967296)) := ⟨_, rfl⟩
          rw [← hX2] at HE
          have HX2 := Lib.hid hX2
          clear hX2 HD HDY HA
          have hAl : (schA W t).length = 64 := by rw [schA_len, HL.out]
          obtain ⟨i7, h7⟩ : ∃ i, t - 7 = i := ⟨_, rfl⟩
          have q7 : (i7 : Int) < 64 := by omega
          rw [h7] at s7
          have d7 := HE.out.cell (i := i7) (by omega)
          have dt := HE.out.cell (i := t) (by omega)
          have df := HE.out.rw_.frozen t
          obtain ⟨u, hu⟩ : ∃ u, (schA W t).getD i7 0 = u := ⟨_, rfl⟩
          obtain ⟨o, ho⟩ : ∃ o, (schA W t).getD t 0 = o := ⟨_, rfl⟩
          rw [hu] at d7
          rw [ho] at dt
          clear hAl
          go_wp2_with fail
          rw [← HX2.out]
          clear HX2 dt2 df2
          refine wp_region_still_tail 18 (by kernel_rfl) (by kernel_rfl) ?_
          simp only [List.take_succ_cons, List.take_zero, List.drop_succ_cons, List.drop_zero]
          repeat still_step
          still_call (rot_still _ _ _)
          repeat still_step
          still_call (rot_still _ _ _)
          repeat still_step
          refine wpStill_nil ?_
          change wpList _ _ _ _ _ X2.drew
          obtain ⟨Y2, hY2⟩ : ∃ Y2, Y2 = X2.drew := ⟨_, rfl⟩
          have dt3 : Y2.cell? ⟨P + 1 + 1, t, none⟩ = some (.int .u32 o) := by rw [hY2]; exact dt
          have df3 : Y2.frozen? ⟨P + 1 + 1, t, none⟩ = false := by rw [hY2]; exact df
          rw [← hY2]
          have HEY := Lib.hid HE.out.drew
          rw [← hY2] at HEY
          have hf := HEY.out.setW t (sch2 o u y)
          have e2 : (schA W t).set t (sch2 o u y) = schAll S (n + 1) := by rw [HNX.out, H2.out, h7, hu, ho]
          rw [e2] at hf
          unfold sch2 at hf
          have HFIN := Lib.hid hf
          clear hY2 d7 dt df HE hf e2
          go_wp2_with fail
          go_roundw
          case rel => exact ⟨n + 1, by have := HT.out; go_num, by have := HT.out; omega, HFIN⟩
          case measure => simp [intOf]; omega
        · have hte : t = 64 := by omega
          have hn : n = 48 := by omega
          subst hte
          rw [hn] at HB
          have hWl : (schAll S 48).length = 64 := by rw [schAll_len, hSl]
          obtain ⟨W, hW⟩ : ∃ W, schAll S 48 = W := ⟨_, rfl⟩
          rw [hW] at HB hWl
          have HWE := Lib.hid hW
          clear hW
          have hlt := HB.out.rw_.lt
          have HN0 : Hid (NRow (wr.alloc (.cells #[.int .u32 0, .int .u32 0, .int .u32 0, .int .u32 0, .int .u32 0, .int .u32 0, .int .u32 0, .int .u32 0] 86)) .u32 wr.heap.size 86 (List.replicate 8 0)) := NRow.new wr .u32 86 (List.replicate 8 0)
          have hvv : BlkV w ((wr.alloc (.cells #[.int .u32 0, .int .u32 0, .int .u32 0, .int .u32 0, .int .u32 0, .int .u32 0, .int .u32 0, .int .u32 0] 86)).setRow wr.heap.size (h.map (Value.int .u32)).toArray) P wr.heap.size h (List.replicate 8 0) W h :=
            BlkV.setV (V := List.replicate 8 0) ⟨⟨HB.out.rh.alloc _, HB.out.rz.alloc _, HB.out.rw_.alloc _, HB.out.bel.alloc (by omega) _⟩, HN0.out, hlt⟩ h
          have hP0 : 0 < P := by rw [HP.out]; have h9 := HG.out 0 (.int .u32 KS[0]) (by simp [hk]); exact World.block_lt_of_cell? w _ h9
          have hgv := range_below HG.out hvv.i.bel hP0
          obtain ⟨WV, hWV⟩ : ∃ X, X = (wr.alloc (.cells #[.int .u32 0, .int .u32 0, .int .u32 0, .int .u32 0, .int .u32 0, .int .u32 0, .int .u32 0, .int .u32 0] 86)).setRow wr.heap.size (h.map (Value.int .u32)).toArray := ⟨_, rfl⟩
          obtain ⟨Q, hQ⟩ : ∃ Q, Q = wr.heap.size := ⟨_, rfl⟩
          have HGV := Lib.hid hgv
          have HVV := Lib.hid hvv
          have HWV := Lib.hid hWV
          have HQ := Lib.hid hQ
          rw [← hWV, ← hQ] at HVV
          rw [show ((64 : Nat) : Int) = 64 from rfl]
          clear hQ hWV hvv hgv hlt
          go_wp2_with (first
            | (refine wpList_load_row rfl 86 _ rfl P rfl 86 (h.map (Value.int .u32)).toArray (0, 0) _ HB.out.rh Tryd.underlying86 rfl (by rw [info8]; simp [hh]) ?_)
            | (refine wpList_store_row rfl 86 _ _ rfl wr.heap.size (h.map (Value.int .u32)).toArray rfl rfl 86 _ HN0.out (by rw [info8]; simp [hh]) (by simp [hh]) (u32_one _) ?_)
            | (refine wpList_load_mid rfl 105 _ rfl 0 0 rfl (KS.map (Value.int .u32)) _ HGV.out Tryd.underlying105 rfl (by rw [info64]; simp [hk]) ?_))
          rw [← HWV.out, ← HQ.out]
          clear HWV HQ HGV HN0 HB
          go_loopw [93] (fun i wr => ∃ n : Nat, i = .int .i64 n ∧ n ≤ 64 ∧ Hid (BlkV w wr P Q h (List.replicate 8 0) W (rndAll KS W h n))) (fun i _ => 64 - (intOf i).toNat)
          case atStart => exact ⟨0, rfl, by omega, HVV⟩
          case round =>
            obtain ⟨n, rfl, hn64, HB⟩ := hrel
            have en : IntKind.i64.wrap ((n : Int) + 1) = ((n + 1 : Nat) : Int) := by rw [IntKind.wrap_i64]; omega
            by_cases hnl : n < 64
            · have hnI : (n : Int) < 64 := by omega
              have HNX : Hid (rndAll KS W h (n + 1) = rndStep (rndAll KS W h n) (KS.getD n 0) (W.getD n 0)) := rfl
              have hVl := rndAll_len KS W h hh n
              obtain ⟨V, hV⟩ : ∃ V, rndAll KS W h n = V := ⟨_, rfl⟩
              rw [hV] at HB HNX hVl
              obtain ⟨kk, hkk⟩ : ∃ kk, KS.getD n 0 = kk := ⟨_, rfl⟩
              obtain ⟨wt, hwt⟩ : ∃ wt, W.getD n 0 = wt := ⟨_, rfl⟩
              rw [hkk, hwt] at HNX
              have cW := HB.out.i.cell (i := n) (by omega)
              rw [hwt] at cW
              have hKi : (KS.map (Value.int .u32)).toArray[n]? = some (.int .u32 kk) := by
                rw [← hkk, getD_at (by omega)]
                simp [hk, hnl]
              have hlt := HB.out.lt
              have hIX : ∀ X : World, (Instr.index 105 (.agg (KS.map (Value.int .u32)).toArray) (.int .i64 (n : Int))).run Tryd.prog X = .ok (.int .u32 kk) X := fun X =>
                run_index_arr _ _ 64 _ .i64 .u32 n _ X Tryd.underlying105 Tryd.underlying85 (by kernel_rfl) hnl hKi
              have HRS : Hid (rndStep V kk wt = [(oneF V kk wt + twoF V) % 4294967296, V.getD 0 0, V.getD 1 0, V.getD 2 0, (V.getD 3 0 + oneF V kk wt) % 4294967296, V.getD 4 0, V.getD 5 0, V.getD 6 0]) := rfl
              have h1F : oneF V kk wt = oneF V kk wt := rfl
              have h2F : twoF V = twoF V := rfl
              have hcf : ∀ X : World, BlkV w X P Q h (List.replicate 8 0) W V → X.cell? ⟨Q, 0, none⟩ = some (.int .u32 (V.getD 0 0)) ∧ X.cell? ⟨Q, 1, none⟩ = some (.int .u32 (V.getD 1 0)) ∧ X.cell? ⟨Q, 2, none⟩ = some (.int .u32 (V.getD 2 0)) ∧ X.cell? ⟨Q, 3, none⟩ = some (.int .u32 (V.getD 3 0)) ∧
                  X.cell? ⟨Q, 4, none⟩ = some (.int .u32 (V.getD 4 0)) ∧ X.cell? ⟨Q, 5, none⟩ = some (.int .u32 (V.getD 5 0)) ∧ X.cell? ⟨Q, 6, none⟩ = some (.int .u32 (V.getD 6 0)) ∧ X.cell? ⟨Q, 7, none⟩ = some (.int .u32 (V.getD 7 0)) := fun X H =>
                ⟨H.cellV (by omega), H.cellV (by omega), H.cellV (by omega), H.cellV (by omega), H.cellV (by omega), H.cellV (by omega), H.cellV (by omega), H.cellV (by omega)⟩
              conv at h1F => lhs; unfold oneF
              conv at h2F => lhs; unfold twoF
              obtain ⟨v0, hv0⟩ : ∃ x, V.getD 0 0 = x := ⟨_, rfl⟩
              obtain ⟨v1, hv1⟩ : ∃ x, V.getD 1 0 = x := ⟨_, rfl⟩
              obtain ⟨v2, hv2⟩ : ∃ x, V.getD 2 0 = x := ⟨_, rfl⟩
              obtain ⟨v3, hv3⟩ : ∃ x, V.getD 3 0 = x := ⟨_, rfl⟩
              obtain ⟨v4, hv4⟩ : ∃ x, V.getD 4 0 = x := ⟨_, rfl⟩
              obtain ⟨v5, hv5⟩ : ∃ x, V.getD 5 0 = x := ⟨_, rfl⟩
              obtain ⟨v6, hv6⟩ : ∃ x, V.getD 6 0 = x := ⟨_, rfl⟩
              obtain ⟨v7, hv7⟩ : ∃ x, V.getD 7 0 = x := ⟨_, rfl⟩
              obtain ⟨ON, hON⟩ : ∃ x, oneF V kk wt = x := ⟨_, rfl⟩
              obtain ⟨TW, hTW⟩ : ∃ x, twoF V = x := ⟨_, rfl⟩
              rw [hv0] at hcf h2F HRS
              rw [hv1] at hcf h2F HRS
              rw [hv2] at hcf h2F HRS
              rw [hv3] at hcf HRS
              rw [hv4] at hcf h1F HRS
              rw [hv5] at hcf h1F HRS
              rw [hv6] at hcf h1F HRS
              rw [hv7] at hcf h1F
              rw [hON] at h1F HRS
              rw [hTW] at h2F HRS
              have H1F := Lib.hid h1F
              have H2F := Lib.hid h2F
              have HCF := Lib.hid hcf
              have HWT := Lib.hid hwt
              have HWL : Hid (∀ X : World, BlkV w X P Q h (List.replicate 8 0) W V → X.cell? ⟨P + 1 + 1, n, none⟩ = some (.int .u32 wt)) := fun X H => by have h9 := H.i.cell (i := n) (by omega); rw [HWT.out] at h9; exact h9
              clear hv0 hv1 hv2 hv3 hv4 hv5 hv6 hv7 h1F h2F hON hTW hKi hcf cW hwt hV hkk
              obtain ⟨z0, z1, z2, z3, z4, z5, z6, z7⟩ := HCF.out wr HB.out
              go_wp2_with fail
              refine wp_region_still_lit (by kernel_rfl) (by kernel_rfl) ?_
              repeat still_step
              refine wpStill_nil ?_
              change Exit.then _ _ _ _ wr.drew
              clear z0 z1 z2 z3 z4 z5 z6 z7
              have HB1 := Lib.hid HB.out.drew
              obtain ⟨X1, hX1⟩ : ∃ X1, X1 = wr.drew := ⟨_, rfl⟩
              rw [← hX1] at HB1 ⊢
              clear hX1 HB
              obtain ⟨z0, z1, z2, z3, z4, z5, z6, z7⟩ := HCF.out X1 HB1.out
              have zw := HWL.out X1 HB1.out
              go_wp2_with fail
              refine wp_region_still_lit (by kernel_rfl) (by kernel_rfl) ?_
              repeat still_step
              still_call (rot_still _ _ _)
              repeat still_step
              still_call (rot_still _ _ _)
              repeat still_step
              still_call (rot_still _ _ _)
              repeat still_step
              refine wpStill_nil ?_
              change Exit.then _ _ _ _ X1.drew
              rw [H1F.out]
              clear z0 z1 z2 z3 z4 z5 z6 z7 zw
              have HB2 := Lib.hid HB1.out.drew
              obtain ⟨X2, hX2⟩ : ∃ X2, X2 = X1.drew := ⟨_, rfl⟩
              rw [← hX2] at HB2 ⊢
              clear hX2 HB1
              obtain ⟨z0, z1, z2, z3, z4, z5, z6, z7⟩ := HCF.out X2 HB2.out
              go_wp2_with fail
              refine wp_region_still_lit (by kernel_rfl) (by kernel_rfl) ?_
              repeat still_step
              still_call (rot_still _ _ _)
              repeat still_step
              still_call (rot_still _ _ _)
              repeat still_step
              still_call (rot_still _ _ _)
              repeat still_step
              refine wpStill_nil ?_
              change Exit.then _ _ _ _ X2.drew
              rw [H2F.out]
              clear z0 z1 z2 z3 z4 z5 z6 z7
              have HB3 := Lib.hid HB2.out.drew
              obtain ⟨X3, hX3⟩ : ∃ X3, X3 = X2.drew := ⟨_, rfl⟩
              rw [← hX3] at HB3 ⊢
              clear hX3 HB2
              obtain ⟨z0, z1, z2, z3, z4, z5, z6, z7⟩ := HCF.out X3 HB3.out
              have hfin := HB3.out.setV (rndStep V kk wt)
              rw [← HNX.out] at hfin
              have hfin2 : BlkV w (X3.setRow Q #[.int .u32 ((ON + TW) % 4294967296), .int .u32 v0, .int .u32 v1, .int .u32 v2, .int .u32 ((v3 + ON) % 4294967296), .int .u32 v4, .int .u32 v5, .int .u32 v6]) P Q h (List.replicate 8 0) W (rndAll KS W h (n + 1)) := by
                rw [HNX.out, HRS.out] at hfin
                rw [HNX.out, HRS.out]
                exact hfin
              have HFIN := Lib.hid hfin2
              clear hfin hfin2
              go_wp2_with (refine wpList_store_row rfl 86 _ _ rfl Q #[.int .u32 ((ON + TW) % 4294967296), .int .u32 v0, .int .u32 v1, .int .u32 v2, .int .u32 ((v3 + ON) % 4294967296), .int .u32 v4, .int .u32 v5, .int .u32 v6] rfl rfl 86 _ HB3.out.rv (by rw [info8]; rfl) (by simp [hVl]) (by simp [Value.oneCell']) ?_)
              go_roundw
              case rel => exact ⟨n + 1, by go_num, by omega, HFIN⟩
              case measure => simp [intOf]; omega
            · have hne : n = 64 := by omega
              subst hne
              rw [show ((64 : Nat) : Int) = 64 from rfl]
              obtain ⟨V, hV⟩ : ∃ V, rndAll KS W h 64 = V := ⟨_, rfl⟩
              have hVl := rndAll_len KS W h hh 64
              rw [hV] at HB hVl
              have HB0 : Hid (BlkV w wr P Q (addAll h V 0) (List.replicate 8 0) W V) := HB
              obtain ⟨W5, rfl⟩ : ∃ W5 : World, W5 = wr := ⟨_, rfl⟩
              clear HB
              go_wp2_with fail
              go_loopw [169] (fun i wr => ∃ n : Nat, i = .int .i64 n ∧ n ≤ 8 ∧ Hid (BlkV w wr P Q (addAll h V n) (List.replicate 8 0) W V)) (fun i _ => 8 - (intOf i).toNat)
              case atStart => exact ⟨0, rfl, by omega, HB0⟩
              case round =>
                obtain ⟨n, rfl, hn8, HB⟩ := hrel
                have en : IntKind.i64.wrap ((n : Int) + 1) = ((n + 1 : Nat) : Int) := by rw [IntKind.wrap_i64]; omega
                by_cases hnl : n < 8
                · have hnI : (n : Int) < 8 := by omega
                  have hal : (addAll h V n).length = 8 := by rw [addAll_len, hh]
                  have c1 := HB.out.cellH (i := n) (by omega)
                  have c2 := HB.out.cellV (i := n) (by omega)
                  have hf := HB.out.drew.setH n (((addAll h V n).getD n 0 + V.getD n 0) % 4294967296)
                  have HF : Hid (BlkV w (wr.drew.setCell ⟨P, n, none⟩ (.int .u32 (((addAll h V n).getD n 0 + V.getD n 0) % 4294967296))) P Q (addAll h V (n + 1)) (List.replicate 8 0) W V) := hf
                  obtain ⟨x, hx⟩ : ∃ x, (addAll h V n).getD n 0 = x := ⟨_, rfl⟩
                  obtain ⟨y, hy⟩ : ∃ y, V.getD n 0 = y := ⟨_, rfl⟩
                  rw [hx] at c1 HF
                  rw [hy] at c2 HF
                  have f1 : wr.frozen? ⟨P, n, none⟩ = false := HB.out.i.rh.frozen n
                  obtain ⟨X1, hX1⟩ : ∃ X1, X1 = wr.drew := ⟨_, rfl⟩
                  have c1' : X1.cell? ⟨P, n, none⟩ = some (.int .u32 x) := by rw [hX1]; exact c1
                  have f1' : X1.frozen? ⟨P, n, none⟩ = false := by rw [hX1]; exact f1
                  rw [← hX1] at HF
                  have HX1 := Lib.hid hX1
                  clear hf hx hy hX1
                  go_wp2_with fail
                  refine wp_region_still_tail 8 (by kernel_rfl) (by kernel_rfl) ?_
                  simp only [List.take_succ_cons, List.take_zero, List.drop_succ_cons, List.drop_zero]
                  repeat still_step
                  refine wpStill_nil ?_
                  change wpList _ _ _ _ _ wr.drew
                  rw [← HX1.out]
                  clear c1 c2 f1
                  go_wp2_with fail
                  go_roundw
                  case rel => exact ⟨n + 1, by go_num, by omega, HF⟩
                  case measure => simp [intOf]; omega
                · have hne : n = 8 := by omega
                  subst hne
                  have hal : (addAll h V 8).length = 8 := by rw [addAll_len, hh]
                  have hre : addAll h V 8 = RES := by rw [← HRE.out]; unfold blkF; rw [HSE.out, HWE.out, hV]
                  rw [hre] at HB hal
                  clear hre
                  have hzr := HB.out.i.rz
                  have HZ : Hid (NRow (wr.setRow (P + 1) (RES.map (Value.int .u32)).toArray) .u32 (P + 1) 86 RES) := hzr.store
                  have HBE : Hid (Below w.heap.size w (wr.setRow (P + 1) (RES.map (Value.int .u32)).toArray)) := by
                    rw [← HP.out]
                    exact HB.out.i.bel.trans ⟨rfl, rfl, rfl, by simp, fun k hk => setRow_other wr (P + 1) k _ (by omega)⟩
                  go_wp2_with (first
                    | (refine wpList_load_row rfl 86 _ rfl P rfl 86 (RES.map (Value.int .u32)).toArray (0, 0) _ HB.out.i.rh Tryd.underlying86 rfl (by rw [info8]; simp [hal]) ?_)
                    | (refine wpList_store_row rfl 86 _ _ rfl (P + 1) (RES.map (Value.int .u32)).toArray rfl rfl 86 _ HB.out.i.rz (by rw [info8]; simp [hal]) (by simp [hal]) (u32_one _) ?_))
                  refine bodyPost_ret (results_cell_row rfl _ _ (P + 1) 86 (RES.map (Value.int .u32)).toArray (0, 0) _ rfl HZ.out Tryd.underlying86 rfl (by rw [info8]; simp [hal])) rfl ?_
                  exact ⟨rfl, HBE.out⟩

end Go.Proofs.YtgfnelpfoegdaaaDoor
