/-
  The examples of chapter 21: in plain words, and lives returns true.
-/
import Derived.Test.YtdhiefgbajogcaaRtO
import Derived.Test.YtdhiefgbajogcaaSvH
import Derived.Test.YtdhiefgbajogcaaSvO
namespace Go.Proofs.Ytdhiefgbajogcaa
open Go.RowKit

def exS : List (Int × Int) := [(3, 0), (0, 1)]
def exR : Ret := ⟨1, 1, 104, 104⟩
def exA1 : At := ⟨5, 2, 0, 100, []⟩
def exA2 : At := ⟨5, 2, 0, 100, [exFirst]⟩
def exB1 : At := ⟨5, 2, 1, 101, []⟩
def exB2 : At := ⟨5, 2, 1, 101, [exR]⟩
def exB3 : At := ⟨5, 2, 1, 101, [exR, exR]⟩

theorem exs2 (l : List Ret) (d : Int) : excF l exS d = max 0 ((nW l 0 d : Int) - 0) + max 0 ((nW l 1 d : Int) - 1) := by
  show (0 : Int) + max 0 ((nW l _ d : Int) - 0) + max 0 ((nW l _ d : Int) - 1) = _
  rw [Int.zero_add]
  rfl

theorem alw_lit2 {l : List Ret} {cs : List (Int × Int)} {sent : Int} {out : List (Int × Int)} {nv : Bool} (least : Int) (hv : ValSp out) (ha : Apart out) (hc : ∀ s ∈ out, sent ≤ s.1 ∧ s.2 ≤ 3652058) (h1 : ∀ d, sent ≤ d → d ≤ 3652058 → (Cov out d ↔ excF l cs d = least))
    (h2 : ∀ p, Poss sent p → least ≤ excF l cs p) (h3 : ∃ p, Poss sent p ∧ excF l cs p = least) (h4 : nv = true ↔ excF l cs (-1) = least) : Alw l cs sent out nv := by
  obtain ⟨q, hq, hqe⟩ := h3
  refine ⟨hv, ha, fun d => ⟨fun h => ?_, fun ⟨g1, g2, g3⟩ => ?_⟩, h4.trans ⟨fun h p hp => by rw [h]; exact h2 p hp, fun h => ?_⟩⟩
  · obtain ⟨s, hs, g1, g2⟩ := h
    have hb := hc s hs
    have hd1 : sent ≤ d := by omega
    have hd2 : d ≤ 3652058 := by omega
    refine ⟨hd1, hd2, fun p hp => ?_⟩
    rw [(h1 d hd1 hd2).1 ⟨s, hs, g1, g2⟩]
    exact h2 p hp
  · refine (h1 d g1 g2).2 ?_
    have := g3 q hq
    have := h2 d (.inr ⟨g1, g2⟩)
    omega
  · have := h q hq
    have := h2 (-1) (.inl rfl)
    omega

theorem exR_w (d : Int) : wrongB exR d = true ↔ (d < 104 ∨ 104 < d) := by
  rw [wrongB_1 rfl, Bool.or_eq_true, decide_eq_true_eq, decide_eq_true_eq]; exact Iff.rfl
theorem exs_one (d : Int) : excF [exFirst] exS d = if d < 103 ∨ 105 < d then 1 else 0 := by
  rw [exs2]
  by_cases hp : d < 103 ∨ 105 < d
  · simp only [nW_cons, nW_nil, exFirst_w, show exFirst.car = 0 from rfl, hp]; decide
  · simp only [nW_cons, nW_nil, exFirst_w, show exFirst.car = 0 from rfl, hp]; decide
theorem exs_R (d : Int) : excF [exR] exS d = 0 := by
  rw [exs2]
  by_cases hp : d < 104 ∨ 104 < d
  · simp only [nW_cons, nW_nil, exR_w, show exR.car = 1 from rfl, hp]; decide
  · simp only [nW_cons, nW_nil, exR_w, show exR.car = 1 from rfl, hp]; decide
theorem exs_RR (d : Int) : excF [exR, exR] exS d = if d < 104 ∨ 104 < d then 1 else 0 := by
  rw [exs2]
  by_cases hp : d < 104 ∨ 104 < d
  · simp only [nW_cons, nW_nil, exR_w, show exR.car = 1 from rfl, hp]; decide
  · simp only [nW_cons, nW_nil, exR_w, show exR.car = 1 from rfl, hp]; decide
theorem exs_nil (d : Int) : excF [] exS d = 0 := by rw [exs2]; simp [nW_nil, mx0]

theorem svd_A1 : Svd [] exS 100 (0, false) := ⟨_, _, alw_nil (by omega) exs_nil, rfl⟩
theorem svd_B1 : Svd [] exS 101 (0, false) := ⟨_, _, alw_nil (by omega) exs_nil, rfl⟩
theorem svd_A2 : Svd [exFirst] exS 100 (105, true) := by
  refine ⟨[(103, 105)], false, alw_lit2 0 (val_one (by omega)) (apart_one _) (by simp) (fun d h1 h2 => ?_) (fun p hp => ?_) ⟨103, .inr (by omega), ?_⟩ ?_, rfl⟩
  · rw [cov_one, exs_one]; split <;> omega
  · rw [exs_one]; split <;> omega
  · rw [exs_one]; rfl
  · rw [exs_one]; simp
theorem svd_B2 : Svd [exR] exS 101 (0, false) := by
  refine ⟨[(101, 3652058)], true, alw_lit2 0 (val_one (by omega)) (apart_one _) (by simp) (fun d h1 h2 => ?_) (fun p hp => ?_) ⟨103, .inr (by omega), ?_⟩ ?_, rfl⟩
  · rw [cov_one, exs_R]; simp; omega
  · rw [exs_R]; omega
  · rw [exs_R]
  · rw [exs_R]; simp
theorem svd_B3 : Svd [exR, exR] exS 101 (104, true) := by
  refine ⟨[(104, 104)], false, alw_lit2 0 (val_one (by omega)) (apart_one _) (by simp) (fun d h1 h2 => ?_) (fun p hp => ?_) ⟨104, .inr (by omega), ?_⟩ ?_, rfl⟩
  · rw [cov_one, exs_RR]; split <;> omega
  · rw [exs_RR]; split <;> omega
  · rw [exs_RR]; rfl
  · rw [exs_RR]; simp

def exF (a : At) : Int × Bool := if a.car = 0 then (if a.own.length = 0 then (0, false) else (105, true)) else (if a.own.length < 2 then (0, false) else (104, true))

def ExAts (l : List At) : Prop := ∀ a ∈ l, a = exA1 ∨ a = exA2 ∨ a = exB1 ∨ a = exB2 ∨ a = exB3
theorem ExAts.svd {l : List At} (h : ExAts l) : ∀ a ∈ l, Svd a.own exS a.sent (exF a) := fun a ha => by
  rcases h a ha with rfl | rfl | rfl | rfl | rfl
  · exact svd_A1
  · exact svd_A2
  · exact svd_B1
  · exact svd_B2
  · exact svd_B3
theorem exS_ok : CarOk exS := fun c hc => by
  simp [exS] at hc
  rcases hc with rfl | rfl <;> decide
theorem ExAts.ok {l : List At} (h : ExAts l) : AtsOk exS.length l := fun a ha => by
  rcases h a ha with rfl | rfl | rfl | rfl | rfl <;> rfl
theorem ExAts.own {l : List At} (h : ExAts l) : ∀ a ∈ l, a.own.length ≤ 1000000 := fun a ha => by
  rcases h a ha with rfl | rfl | rfl | rfl | rfl <;> decide

theorem exs_begin1 : beginL exS.length [] exA1 = [exA1] := rfl
theorem exs_return1 : retL exS.length [exA1] 0 exFirst = [exA2] := rfl
theorem exs_begin2 : beginL exS.length [exA2] exB1 = [exA2, exB1] := rfl
theorem exs_return2 : retL exS.length [exA2, exB1] 1 exR = [exA2, exB2] := rfl
theorem exs_return3 : retL exS.length [exA2, exB2] 1 exR = [exA2, exB3] := rfl
theorem exs_e1 : chkA exS.length exA1 = 0 := rfl
theorem exs_e2 : retE exS.length [exA1] 0 exFirst = 0 := rfl
theorem exs_e3 : chkA exS.length exB1 = 0 := rfl
theorem exs_e4 : retE exS.length [exA2, exB1] 1 exR = 0 := rfl
theorem exs_e5 : retE exS.length [exA2, exB2] 1 exR = 0 := rfl
theorem exs_e6 : chkA exS.length ⟨0, 0, 2, 0, []⟩ = 5 := rfl
theorem exs_e7 : retE exS.length [exA2, exB3] 2 ⟨0, 0, 0, 0⟩ = 3 := rfl
theorem exs_of1 : ofF exF exS 5 2 [exA2] = some ⟨105, 3, 0⟩ := rfl
theorem exs_of2 : ofF exF exS 5 2 [exA2, exB2] = some ⟨105, 3, 0⟩ := rfl
theorem exs_of3 : ofF exF exS 5 2 [exA2, exB3] = some ⟨104, 0, 1⟩ := rfl
theorem exs_of4 : ofF exF exS 5 3 [exA2, exB3] = none := rfl
theorem exs_chk : chkL exS.length [exA2, exB3] = 0 := rfl

theorem IsAts.al {X : World} {v : Value} {l : List At} (h : IsAts X v l) (o : Obj) : IsAts (X.alloc o) v l := h.below ((Below.refl _ _).alloc (Nat.le_refl _) o)

/-- A service as three numbers. -/
theorem svLit_three (o : Option Sv) : ∃ a b c : Int, svLit o = #[.int .i64 a, .int .i64 b, .int .i64 c] := by
  cases o with
  | none => exact ⟨0, 0, 0, rfl⟩
  | some s => exact ⟨_, _, _, rfl⟩

/-- The block G holds the service x, y, z. -/
def Kept (W : World) (G : Nat) (x y z : Int) : Prop := W.heap[G]? = some (.cells #[.int .i64 x, .int .i64 y, .int .i64 z] 48) ∧ G < W.heap.size
theorem Kept.below {W W' : World} {G : Nat} {x y z : Int} (h : Kept W G x y z) (hb : Below W.heap.size W W') : Kept W' G x y z := ⟨(hb.block _ h.2).trans h.1, Nat.lt_of_lt_of_le h.2 hb.size⟩
theorem Kept.new (W : World) (x y z : Int) : Kept (W.alloc (.cells #[.int .i64 x, .int .i64 y, .int .i64 z] 48)) W.heap.size x y z := ⟨heap_alloc_new _ _, by simp⟩
theorem Kept.al {W : World} {G : Nat} {x y z : Int} (h : Kept W G x y z) (o : Obj) : Kept (W.alloc o) G x y z := h.below ((Below.refl _ _).alloc (Nat.le_refl _) o)
theorem Kept.cells {W : World} {G : Nat} {x y z : Int} (h : Kept W G x y z) : W.cell? ⟨G, 0, none⟩ = some (.int .i64 x) ∧ W.cell? ⟨G, 1, none⟩ = some (.int .i64 y) ∧ W.cell? ⟨G, 2, none⟩ = some (.int .i64 z) := (three_of h.1).1

theorem exBegin (l l' : List At) (a : At) (k : Int) (v y : Value) (w : World) (hx : IsAts w v l) (hy : IsSps w y exS) (hl : l.length ≤ 1000) (ho : ExAts l) (ha : a.own = []) (hb : beginL exS.length l a = l') (hk : chkA exS.length a = k) :
    Calls Try.prog 18 #[v, .agg #[.int .i64 a.ent, .int .i64 a.par, .int .i64 a.car, .int .i64 a.sent, .slice none 0 0], y] w fun e w' => ∃ v', e = .returned (.tuple #[v', .int .i64 k]) ∧ IsAts w' v' l' ∧ Below w.heap.size w w' := by
  subst hb hk
  refine svcBegin l a exS v _ y w hx ?_ hy hl ho.own (by rw [ha]; decide)
  rw [ha]
  exact IsRts.nil w none 0
theorem exReturn (l l' : List At) (i : Int) (r : Ret) (k : Int) (v y : Value) (w : World) (hx : IsAts w v l) (hy : IsSps w y exS) (hl : l.length ≤ 1000) (ho : ExAts l) (hb : retL exS.length l i r = l') (hk : retE exS.length l i r = k) :
    Calls Try.prog 20 #[v, .int .i64 i, .agg (litRt r), y] w fun e w' => ∃ v', e = .returned (.tuple #[v', .int .i64 k]) ∧ IsAts w' v' l' ∧ Below w.heap.size w w' := by
  subst hb hk
  exact svcReturn l i r exS v y w hx hy hl ho.own
theorem exOf (l : List At) (en pa : Int) (o : Option Sv) (v y : Value) (w : World) (hx : IsAts w v l) (hy : IsSps w y exS) (hl : l.length ≤ 1000) (ho : ExAts l) (hf : ofF exF exS en pa l = o) :
    Calls Try.prog 24 #[v, .int .i64 en, .int .i64 pa, y] w fun e w' => e = .returned (.tuple #[.agg (svLit o), .bool o.isSome]) ∧ Below w.heap.size w w' := by
  subst hf
  exact svcOf exF l exS v y en pa w hx hy hl (by decide) ho.ok exS_ok ho.svd

set_option maxHeartbeats 4000000 in
set_option maxRecDepth 100000 in
theorem lives21 (w : World) : Calls Try.prog 13 #[] w fun e w' => e = .returned (.bool true) ∧ Below w.heap.size w w' := by
  have hn : ExAts [] := fun a h => by cases h
  have h1 : ExAts [exA1] := fun a h => by simp at h; exact .inl h
  have h2 : ExAts [exA2] := fun a h => by simp at h; exact .inr (.inl h)
  have h3 : ExAts [exA2, exB1] := fun a h => by
    simp at h
    rcases h with h | h
    · exact .inr (.inl h)
    · exact .inr (.inr (.inl h))
  have h4 : ExAts [exA2, exB2] := fun a h => by
    simp at h
    rcases h with h | h
    · exact .inr (.inl h)
    · exact .inr (.inr (.inr (.inl h)))
  have h5 : ExAts [exA2, exB3] := fun a h => by
    simp at h
    rcases h with h | h
    · exact .inr (.inl h)
    · exact .inr (.inr (.inr (.inr h)))
  have B1 : Hid (∀ y w, IsSps w y exS → Calls Try.prog 18 #[.slice none 0 0, .agg #[.int .i64 5, .int .i64 2, .int .i64 0, .int .i64 100, .slice none 0 0], y] w fun e w' => ∃ v', e = .returned (.tuple #[v', .int .i64 0]) ∧ IsAts w' v' [exA1] ∧ Below w.heap.size w w') := fun y w hy => exBegin [] _ exA1 0 _ y w (IsAts.nil w none 0) hy (by decide) hn rfl rfl rfl
  have R1 : Hid (∀ v y w, IsAts w v [exA1] → IsSps w y exS → Calls Try.prog 20 #[v, .int .i64 0, .agg #[.int .i64 0, .int .i64 1, .int .i64 103, .int .i64 105], y] w fun e w' => ∃ v', e = .returned (.tuple #[v', .int .i64 0]) ∧ IsAts w' v' [exA2] ∧ Below w.heap.size w w') := fun v y w hx hy => exReturn [exA1] _ 0 exFirst 0 v y w hx hy (by decide) h1 rfl rfl
  have O1 : Hid (∀ v y w, IsAts w v [exA2] → IsSps w y exS → Calls Try.prog 24 #[v, .int .i64 5, .int .i64 2, y] w fun e w' => e = .returned (.tuple #[.agg #[.int .i64 105, .int .i64 3, .int .i64 0], .bool true]) ∧ Below w.heap.size w w') := fun v y w hx hy => exOf [exA2] 5 2 (some ⟨105, 3, 0⟩) v y w hx hy (by decide) h2 rfl
  have B2 : Hid (∀ v y w, IsAts w v [exA2] → IsSps w y exS → Calls Try.prog 18 #[v, .agg #[.int .i64 5, .int .i64 2, .int .i64 1, .int .i64 101, .slice none 0 0], y] w fun e w' => ∃ v', e = .returned (.tuple #[v', .int .i64 0]) ∧ IsAts w' v' [exA2, exB1] ∧ Below w.heap.size w w') := fun v y w hx hy => exBegin [exA2] _ exB1 0 v y w hx hy (by decide) h2 rfl rfl rfl
  have R2 : Hid (∀ v y w, IsAts w v [exA2, exB1] → IsSps w y exS → Calls Try.prog 20 #[v, .int .i64 1, .agg #[.int .i64 1, .int .i64 1, .int .i64 104, .int .i64 104], y] w fun e w' => ∃ v', e = .returned (.tuple #[v', .int .i64 0]) ∧ IsAts w' v' [exA2, exB2] ∧ Below w.heap.size w w') := fun v y w hx hy => exReturn [exA2, exB1] _ 1 exR 0 v y w hx hy (by decide) h3 rfl rfl
  have O2 : Hid (∀ v y w, IsAts w v [exA2, exB2] → IsSps w y exS → Calls Try.prog 24 #[v, .int .i64 5, .int .i64 2, y] w fun e w' => e = .returned (.tuple #[.agg #[.int .i64 105, .int .i64 3, .int .i64 0], .bool true]) ∧ Below w.heap.size w w') := fun v y w hx hy => exOf [exA2, exB2] 5 2 (some ⟨105, 3, 0⟩) v y w hx hy (by decide) h4 rfl
  have R3 : Hid (∀ v y w, IsAts w v [exA2, exB2] → IsSps w y exS → Calls Try.prog 20 #[v, .int .i64 1, .agg #[.int .i64 1, .int .i64 1, .int .i64 104, .int .i64 104], y] w fun e w' => ∃ v', e = .returned (.tuple #[v', .int .i64 0]) ∧ IsAts w' v' [exA2, exB3] ∧ Below w.heap.size w w') := fun v y w hx hy => exReturn [exA2, exB2] _ 1 exR 0 v y w hx hy (by decide) h4 rfl rfl
  have O3 : Hid (∀ v y w, IsAts w v [exA2, exB3] → IsSps w y exS → Calls Try.prog 24 #[v, .int .i64 5, .int .i64 2, y] w fun e w' => e = .returned (.tuple #[.agg #[.int .i64 104, .int .i64 0, .int .i64 1], .bool true]) ∧ Below w.heap.size w w') := fun v y w hx hy => exOf [exA2, exB3] 5 2 (some ⟨104, 0, 1⟩) v y w hx hy (by decide) h5 rfl
  have O4 : Hid (∀ v y w, IsAts w v [exA2, exB3] → IsSps w y exS → Calls Try.prog 24 #[v, .int .i64 5, .int .i64 3, y] w fun e w' => e = .returned (.tuple #[.agg #[.int .i64 0, .int .i64 0, .int .i64 0], .bool false]) ∧ Below w.heap.size w w') := fun v y w hx hy => exOf [exA2, exB3] 5 3 none v y w hx hy (by decide) h5 rfl
  have B3 : Hid (∀ v y w, IsAts w v [exA2, exB3] → IsSps w y exS → Calls Try.prog 18 #[v, .agg #[.int .i64 0, .int .i64 0, .int .i64 2, .int .i64 0, .slice none 0 0], y] w fun e w' => ∃ v', e = .returned (.tuple #[v', .int .i64 5]) ∧ IsAts w' v' [] ∧ Below w.heap.size w w') := fun v y w hx hy => exBegin [exA2, exB3] _ ⟨0, 0, 2, 0, []⟩ 5 v y w hx hy (by decide) h5 rfl rfl rfl
  have R4 : Hid (∀ v y w, IsAts w v [exA2, exB3] → IsSps w y exS → Calls Try.prog 20 #[v, .int .i64 2, .agg #[.int .i64 0, .int .i64 0, .int .i64 0, .int .i64 0], y] w fun e w' => ∃ v', e = .returned (.tuple #[v', .int .i64 3]) ∧ IsAts w' v' [] ∧ Below w.heap.size w w') := fun v y w hx hy => exReturn [exA2, exB3] _ 2 ⟨0, 0, 0, 0⟩ 3 v y w hx hy (by decide) h5 rfl rfl
  have C1 : Hid (∀ v y w, IsAts w v [exA2, exB3] → IsSps w y exS → Calls Try.prog 14 #[v, y] w fun e w' => e = .returned (.int .i64 0) ∧ Below w.heap.size w w') := fun v y w hx hy => svcCheckL [exA2, exB3] exS v y w hx hy
  obtain ⟨W0, hW0⟩ : ∃ W0, W0 = w.alloc (.cells #[.int .i64 3, .int .i64 0, .int .i64 0, .int .i64 1] 53) := ⟨_, rfl⟩
  have HC : Hid (IsSps W0 (.slice (some ⟨w.heap.size, 0, none⟩) 2 2) exS) := by
    show IsSps _ _ _
    rw [hW0]
    exact spans_lit w exS 53 (by decide)
  have HB0 : Hid (Below w.heap.size w W0) := by
    show Below _ _ _
    rw [hW0]
    exact (Below.refl _ _).alloc (Nat.le_refl _) _
  have HW0 := Lib.hid hW0
  clear hW0 hn h1 h2 h3 h4 h5
  generalize hg1 : [exA1] = l1 at *
  generalize hg2 : [exA2] = l2 at *
  generalize hg3 : [exA2, exB1] = l3 at *
  generalize hg4 : [exA2, exB2] = l4 at *
  generalize hg5 : [exA2, exB3] = l5 at *
  clear hg1 hg2 hg3 hg4 hg5
  go_enter Try.func13, Try.ntmps13
  go_wp2_with fail
  rw [← HW0.out]
  refine (B1.out _ _ HC.out).mono ?_
  rintro e w1 ⟨v1, rfl, hv1, b1⟩
  have V1 := Lib.hid hv1
  have E1 := Lib.hid b1
  obtain ⟨a1, c1, rfl, -, -⟩ := hv1.open
  clear b1 hv1
  go_wp2_with fail
  refine (R1.out _ _ _ V1.out (HC.out.below E1.out)).mono ?_
  rintro e w2 ⟨v2, rfl, hv2, b2⟩
  have V2 := Lib.hid hv2
  have E2 := Lib.hid (Below.to E1.out b2 E1.out.size)
  obtain ⟨a2, c2, rfl, -, -⟩ := hv2.open
  clear b2 hv2
  go_wp2_with fail
  refine (O1.out _ _ _ V2.out (HC.out.below E2.out)).mono ?_
  rintro e w3 ⟨rfl, b3⟩
  have V3 := Lib.hid (V2.out.below b3)
  have E3 := Lib.hid (Below.to E2.out b3 E2.out.size)
  clear b3
  obtain ⟨G1, hG1⟩ : ∃ G1, G1 = w3.heap.size := ⟨_, rfl⟩
  obtain ⟨X3, hX3⟩ : ∃ X3, X3 = w3.alloc (.cells #[.int .i64 105, .int .i64 3, .int .i64 0] 48) := ⟨_, rfl⟩
  have F1 : Hid (Kept X3 G1 105 3 0) := by show Kept _ _ _ _ _; rw [hX3, hG1]; exact Kept.new _ _ _ _
  have VX3 : Hid (IsAts X3 (.slice a2 l2.length c2) l2) := by show IsAts _ _ _; rw [hX3]; exact V3.out.al _
  have EX3 : Hid (Below W0.heap.size W0 X3) := by show Below _ _ _; rw [hX3]; exact E3.out.alloc E3.out.size _
  have HX3 := Lib.hid hX3
  have HG1 := Lib.hid hG1
  clear hG1 hX3
  go_wp2_with fail
  rw [← HX3.out, ← HG1.out]
  refine (B2.out _ _ _ VX3.out (HC.out.below EX3.out)).mono ?_
  rintro e w4 ⟨v4, rfl, hv4, b4⟩
  have V4 := Lib.hid hv4
  have E4 := Lib.hid (Below.to EX3.out b4 EX3.out.size)
  have F1 := Lib.hid (F1.out.below b4)
  obtain ⟨a4, c4, rfl, -, -⟩ := hv4.open
  clear b4 hv4
  go_wp2_with fail
  refine (R2.out _ _ _ V4.out (HC.out.below E4.out)).mono ?_
  rintro e w5 ⟨v5, rfl, hv5, b5⟩
  have V5 := Lib.hid hv5
  have E5 := Lib.hid (Below.to E4.out b5 E4.out.size)
  have F1 := Lib.hid (F1.out.below b5)
  obtain ⟨a5, c5, rfl, -, -⟩ := hv5.open
  clear b5 hv5
  go_wp2_with fail
  refine (O2.out _ _ _ V5.out (HC.out.below E5.out)).mono ?_
  rintro e w6 ⟨rfl, b6⟩
  have V6 := Lib.hid (V5.out.below b6)
  have E6 := Lib.hid (Below.to E5.out b6 E5.out.size)
  have F1 := Lib.hid (F1.out.below b6)
  clear b6
  obtain ⟨G2, hG2⟩ : ∃ G2, G2 = w6.heap.size := ⟨_, rfl⟩
  obtain ⟨X6, hX6⟩ : ∃ X6, X6 = w6.alloc (.cells #[.int .i64 105, .int .i64 3, .int .i64 0] 48) := ⟨_, rfl⟩
  have F2 : Hid (Kept X6 G2 105 3 0) := by show Kept _ _ _ _ _; rw [hX6, hG2]; exact Kept.new _ _ _ _
  have F1 : Hid (Kept X6 G1 105 3 0) := by show Kept _ _ _ _ _; rw [hX6]; exact F1.out.al _
  have VX6 : Hid (IsAts X6 (.slice a5 l4.length c5) l4) := by show IsAts _ _ _; rw [hX6]; exact V6.out.al _
  have EX6 : Hid (Below W0.heap.size W0 X6) := by show Below _ _ _; rw [hX6]; exact E6.out.alloc E6.out.size _
  have HX6 := Lib.hid hX6
  have HG2 := Lib.hid hG2
  clear hG2 hX6
  go_wp2_with fail
  rw [← HX6.out, ← HG2.out]
  refine (R3.out _ _ _ VX6.out (HC.out.below EX6.out)).mono ?_
  rintro e w7 ⟨v7, rfl, hv7, b7⟩
  have V7 := Lib.hid hv7
  have E7 := Lib.hid (Below.to EX6.out b7 EX6.out.size)
  have F1 := Lib.hid (F1.out.below b7)
  have F2 := Lib.hid (F2.out.below b7)
  obtain ⟨a7, c7, rfl, -, -⟩ := hv7.open
  clear b7 hv7
  go_wp2_with fail
  refine (O3.out _ _ _ V7.out (HC.out.below E7.out)).mono ?_
  rintro e w8 ⟨rfl, b8⟩
  have V8 := Lib.hid (V7.out.below b8)
  have E8 := Lib.hid (Below.to E7.out b8 E7.out.size)
  have F1 := Lib.hid (F1.out.below b8)
  have F2 := Lib.hid (F2.out.below b8)
  clear b8
  obtain ⟨G3, hG3⟩ : ∃ G3, G3 = w8.heap.size := ⟨_, rfl⟩
  obtain ⟨X8, hX8⟩ : ∃ X8, X8 = w8.alloc (.cells #[.int .i64 104, .int .i64 0, .int .i64 1] 48) := ⟨_, rfl⟩
  have F3 : Hid (Kept X8 G3 104 0 1) := by show Kept _ _ _ _ _; rw [hX8, hG3]; exact Kept.new _ _ _ _
  have F1 : Hid (Kept X8 G1 105 3 0) := by show Kept _ _ _ _ _; rw [hX8]; exact F1.out.al _
  have F2 : Hid (Kept X8 G2 105 3 0) := by show Kept _ _ _ _ _; rw [hX8]; exact F2.out.al _
  have VX8 : Hid (IsAts X8 (.slice a7 l5.length c7) l5) := by show IsAts _ _ _; rw [hX8]; exact V8.out.al _
  have EX8 : Hid (Below W0.heap.size W0 X8) := by show Below _ _ _; rw [hX8]; exact E8.out.alloc E8.out.size _
  have HX8 := Lib.hid hX8
  have HG3 := Lib.hid hG3
  clear hG3 hX8
  go_wp2_with fail
  rw [← HX8.out, ← HG3.out]
  refine (O4.out _ _ _ VX8.out (HC.out.below EX8.out)).mono ?_
  rintro e w9 ⟨rfl, b9⟩
  have b9 := Below.alloc b9 b9.size (.cells #[.int .i64 0, .int .i64 0, .int .i64 0] 48)
  obtain ⟨X9, hX9⟩ : ∃ X9, X9 = w9.alloc (.cells #[.int .i64 0, .int .i64 0, .int .i64 0] 48) := ⟨_, rfl⟩
  rw [← hX9] at b9
  have V9 := Lib.hid (VX8.out.below b9)
  have E9 := Lib.hid (Below.to EX8.out b9 EX8.out.size)
  have F1 := Lib.hid (F1.out.below b9)
  have F2 := Lib.hid (F2.out.below b9)
  have F3 := Lib.hid (F3.out.below b9)
  have HX9 := Lib.hid hX9
  clear b9 hX9
  go_wp2_with fail
  rw [← HX9.out]
  refine (B3.out _ _ _ V9.out (HC.out.below E9.out)).mono ?_
  rintro e w10 ⟨v10, rfl, hv10, b10⟩
  have V10 := Lib.hid (V9.out.below b10)
  have E10 := Lib.hid (Below.to E9.out b10 E9.out.size)
  have F1 := Lib.hid (F1.out.below b10)
  have F2 := Lib.hid (F2.out.below b10)
  have F3 := Lib.hid (F3.out.below b10)
  obtain ⟨a10, c10, rfl, -, -⟩ := hv10.open
  clear b10 hv10
  go_wp2_with fail
  refine (R4.out _ _ _ V10.out (HC.out.below E10.out)).mono ?_
  rintro e w11 ⟨v11, rfl, hv11, b11⟩
  have V11 := Lib.hid (V10.out.below b11)
  have E11 := Lib.hid (Below.to E10.out b11 E10.out.size)
  have F1 := F1.out.below b11
  have F2 := F2.out.below b11
  have F3 := F3.out.below b11
  obtain ⟨p0, p1, p2⟩ := F1.cells
  obtain ⟨q0, q1, q2⟩ := F2.cells
  obtain ⟨r0, r1, r2⟩ := F3.cells
  obtain ⟨a11, c11, rfl, -, -⟩ := hv11.open
  clear b11 hv11 F1 F2 F3
  go_wp2_with fail
  refine (C1.out _ _ _ V11.out (HC.out.below E11.out)).mono ?_
  rintro e w12 ⟨rfl, b12⟩
  have E12 := Lib.hid (Below.to HB0.out (Below.to E11.out b12 E11.out.size) HB0.out.size)
  clear b12
  go_wp2_with fail
  go_ret
  exact ⟨rfl, E12.out⟩

end Go.Proofs.Ytdhiefgbajogcaa
