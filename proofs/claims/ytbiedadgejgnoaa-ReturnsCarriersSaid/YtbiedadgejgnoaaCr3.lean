/-
  Deliveries and reports as rows; IndexFunc at both, find at deliveries. (Printed by wip/tools/gen_cr.py.)
-/
import Derived.Test.YtbiedadgejgnoaaCr1
import Derived.Test.YtbiedadgejgnoaaEnR
namespace Go.Proofs.Ytbiedadgejgnoaa
open Go.RowKit

structure Dl where
  att : Int
  par : Int
  day : Int
structure Rp where
  att : Int
  day : Int
  ret : Ret
instance : Inhabited Dl := ⟨⟨0, 0, 0⟩⟩
instance : Inhabited Rp := ⟨⟨0, 0, ⟨0, 0, 0, 0⟩⟩⟩

/-- The cells of a delivery. -/
def dlE (x : Dl) : List Value := [.int .i64 x.att, .int .i64 x.par, .int .i64 x.day]
def litDl (x : Dl) : Array Value := #[.int .i64 x.att, .int .i64 x.par, .int .i64 x.day]
theorem dlE_len (x : Dl) : (dlE x).length = 3 := rfl
theorem dlE_one (x : Dl) : ∀ v ∈ dlE x, v.oneCell' = true := by
  intro v hv
  simp [dlE] at hv
  rcases hv with rfl | rfl | rfl <;> rfl
def IsDls (w : World) (v : Value) (l : List Dl) : Prop := Rd w v 3 l.length (enC dlE l)
theorem IsDls.below {w w' : World} {v : Value} {l : List Dl} (h : IsDls w v l) (hb : Below w.heap.size w w') : IsDls w' v l := Rd.below h hb
theorem IsDls.nil (w : World) (a : Option Addr) (cap : Nat) : IsDls w (.slice a 0 cap) [] := Rd.nil w a 3 cap
theorem IsDls.of_owns {w : World} {B e n : Nat} {v : Value} {l : List Dl} (h : w.ownsRow B e 3 v n (enC dlE l)) : IsDls w v l := by
  have hn : n = l.length := by have := h.1; rw [enC_len dlE_len] at this; omega
  subst hn
  exact Rd.of_owns h
theorem IsDls.open {w : World} {v : Value} {l : List Dl} (h : IsDls w v l) : ∃ a cap, v = .slice a l.length cap ∧ l.length ≤ maxLen ∧ l.length ≤ cap := by
  obtain ⟨h1, h2, a, cap, rfl, hn, hc⟩ := h
  exact ⟨a, cap, rfl, h2, hn⟩
theorem IsDls.at {w : World} {v : Value} {l : List Dl} (h : IsDls w v l) {k : Nat} (hk : k < l.length) :
    ∃ b off cap, v = .slice (some ⟨b, off, none⟩) l.length cap ∧ b < w.heap.size ∧ w.cell? ⟨b, off + k * 3, none⟩ = some (.int .i64 l[k].att) ∧ w.cell? ⟨b, off + k * 3 + 1, none⟩ = some (.int .i64 l[k].par) ∧ w.cell? ⟨b, off + k * 3 + 2, none⟩ = some (.int .i64 l[k].day) := by
  obtain ⟨h1, h2, a, cap, rfl, hn, hc⟩ := h
  obtain ⟨b, off, rfl, c0⟩ := hc (k * 3 + 0) _ (by rw [enC_get dlE_len l k 0 hk (by omega)]; rfl)
  obtain ⟨_, _, e, c1⟩ := hc (k * 3 + 1) _ (by rw [enC_get dlE_len l k 1 hk (by omega)]; rfl)
  cases e
  obtain ⟨_, _, e, c2⟩ := hc (k * 3 + 2) _ (by rw [enC_get dlE_len l k 2 hk (by omega)]; rfl)
  cases e
  exact ⟨b, off, cap, rfl, World.block_lt_of_cell? _ _ c0, c0, c1, c2⟩

/-- The cells of a report. -/
def rpE (x : Rp) : List Value := [.int .i64 x.att, .int .i64 x.day, .int .i64 x.ret.car, .int .i64 x.ret.kind, .int .i64 x.ret.fr, .int .i64 x.ret.un]
def litRp (x : Rp) : Array Value := #[.int .i64 x.att, .int .i64 x.day, .int .i64 x.ret.car, .int .i64 x.ret.kind, .int .i64 x.ret.fr, .int .i64 x.ret.un]
theorem rpE_len (x : Rp) : (rpE x).length = 6 := rfl
theorem rpE_one (x : Rp) : ∀ v ∈ rpE x, v.oneCell' = true := by
  intro v hv
  simp [rpE] at hv
  rcases hv with rfl | rfl | rfl | rfl | rfl | rfl <;> rfl
def IsRps (w : World) (v : Value) (l : List Rp) : Prop := Rd w v 6 l.length (enC rpE l)
theorem IsRps.below {w w' : World} {v : Value} {l : List Rp} (h : IsRps w v l) (hb : Below w.heap.size w w') : IsRps w' v l := Rd.below h hb
theorem IsRps.nil (w : World) (a : Option Addr) (cap : Nat) : IsRps w (.slice a 0 cap) [] := Rd.nil w a 6 cap
theorem IsRps.of_owns {w : World} {B e n : Nat} {v : Value} {l : List Rp} (h : w.ownsRow B e 6 v n (enC rpE l)) : IsRps w v l := by
  have hn : n = l.length := by have := h.1; rw [enC_len rpE_len] at this; omega
  subst hn
  exact Rd.of_owns h
theorem IsRps.open {w : World} {v : Value} {l : List Rp} (h : IsRps w v l) : ∃ a cap, v = .slice a l.length cap ∧ l.length ≤ maxLen ∧ l.length ≤ cap := by
  obtain ⟨h1, h2, a, cap, rfl, hn, hc⟩ := h
  exact ⟨a, cap, rfl, h2, hn⟩
theorem IsRps.at {w : World} {v : Value} {l : List Rp} (h : IsRps w v l) {k : Nat} (hk : k < l.length) :
    ∃ b off cap, v = .slice (some ⟨b, off, none⟩) l.length cap ∧ b < w.heap.size ∧ w.cell? ⟨b, off + k * 6, none⟩ = some (.int .i64 l[k].att) ∧ w.cell? ⟨b, off + k * 6 + 1, none⟩ = some (.int .i64 l[k].day) ∧ w.cell? ⟨b, off + k * 6 + 2, none⟩ = some (.int .i64 l[k].ret.car) ∧ w.cell? ⟨b, off + k * 6 + 3, none⟩ = some (.int .i64 l[k].ret.kind) ∧ w.cell? ⟨b, off + k * 6 + 4, none⟩ = some (.int .i64 l[k].ret.fr) ∧ w.cell? ⟨b, off + k * 6 + 5, none⟩ = some (.int .i64 l[k].ret.un) := by
  obtain ⟨h1, h2, a, cap, rfl, hn, hc⟩ := h
  obtain ⟨b, off, rfl, c0⟩ := hc (k * 6 + 0) _ (by rw [enC_get rpE_len l k 0 hk (by omega)]; rfl)
  obtain ⟨_, _, e, c1⟩ := hc (k * 6 + 1) _ (by rw [enC_get rpE_len l k 1 hk (by omega)]; rfl)
  cases e
  obtain ⟨_, _, e, c2⟩ := hc (k * 6 + 2) _ (by rw [enC_get rpE_len l k 2 hk (by omega)]; rfl)
  cases e
  obtain ⟨_, _, e, c3⟩ := hc (k * 6 + 3) _ (by rw [enC_get rpE_len l k 3 hk (by omega)]; rfl)
  cases e
  obtain ⟨_, _, e, c4⟩ := hc (k * 6 + 4) _ (by rw [enC_get rpE_len l k 4 hk (by omega)]; rfl)
  cases e
  obtain ⟨_, _, e, c5⟩ := hc (k * 6 + 5) _ (by rw [enC_get rpE_len l k 5 hk (by omega)]; rfl)
  cases e
  exact ⟨b, off, cap, rfl, World.block_lt_of_cell? _ _ c0, c0, c1, c2, c3, c4, c5⟩

set_option maxHeartbeats 2000000 in
set_option maxRecDepth 100000 in
theorem idxDelivery (l : List Dl) (p : Dl → Bool) (K : Nat) (caps : Array Value) (v : Value) (w : World) (hx : IsDls w v l) (hK : CanCall K)
    (hf : ∀ (i : Nat) (h : i < l.length) (W : World), Below w.heap.size w W → Calls Try.prog K (#[.agg (litDl l[i])] ++ caps) W fun e w' => e = .returned (.bool (p l[i])) ∧ Below W.heap.size W w') :
    Calls Try.prog 77 #[v, .func (.func K) #[] caps] w fun e w' => e = .returned (.int .i64 (idxF p l)) ∧ Below w.heap.size w w' := by
  have HX := Lib.hid hx
  have HFN := Lib.hid hf
  obtain ⟨a, c, rfl, hlm, -⟩ := hx.open
  unfold maxLen at hlm
  obtain ⟨R, hR⟩ : ∃ R, idxF p l = R := ⟨_, rfl⟩
  have HRH : Hid (∀ k (hk : k < l.length), (∀ j (h : j < l.length), j < k → p l[j] = false) → p l[k] = true → R = (k : Int)) := fun k hk h1 h2 => by rw [← hR]; exact idxF_here hk h1 h2
  have HRN : Hid ((∀ j (h : j < l.length), p l[j] = false) → R = -1) := fun h1 => by rw [← hR]; exact idxF_none h1
  rw [hR]
  have HK := Lib.hid hK
  clear hx hf hR hK
  go_enter Try.func77, Try.ntmps77
  go_wp2_with fail
  go_loopw [8] (fun i wr => ∃ k : Nat, i = .int .i64 k ∧ k ≤ l.length ∧ Hid (∀ j (h : j < l.length), j < k → p l[j] = false) ∧ Hid (Below w.heap.size w wr)) (fun i _ => l.length - (intOf i).toNat)
  case atStart => exact ⟨0, rfl, Nat.zero_le _, fun j _ h => absurd h (Nat.not_lt_zero _), Lib.hid (Below.refl _ _)⟩
  case round =>
    obtain ⟨k, rfl, hk, HPR, HB⟩ := hrel
    by_cases hkl : k < l.length
    · have ek : IntKind.i64.wrap ((k : Int) + 1) = ((k + 1 : Nat) : Int) := by rw [IntKind.wrap_i64]; omega
      obtain ⟨b1, o1, q1, e1, -, x0, x1, x2⟩ := (HX.out.below HB.out).at hkl
      simp only [Value.slice.injEq, true_and] at e1
      obtain ⟨rfl, -⟩ := e1
      have hkI : (k : Int) < (l.length : Int) := by omega
      have HC := Lib.hid (HFN.out k hkl wr HB.out)
      have HRK := Lib.hid (HRH.out k hkl HPR.out)
      have HPN : Hid (p l[k] = false → ∀ j (h : j < l.length), j < k + 1 → p l[j] = false) := fun h j hj hjk => by
        rcases Nat.lt_succ_iff_lt_or_eq.1 hjk with g | rfl
        · exact HPR.out j hj g
        · exact h
      obtain ⟨pb, hpb⟩ : ∃ b, p l[k] = b := ⟨_, rfl⟩
      rw [hpb] at HC HRK HPN
      clear hpb
      generalize l[k] = s at *
      obtain ⟨s0, s1, s2⟩ := s
      simp only at x0 x1 x2
      go_wp2_with fail
      rw [HK.out, Oper.upon_enter]
      refine HC.out.mono ?_
      rintro e w3 ⟨rfl, hb3⟩
      have HB3 := Lib.hid (Below.to HB.out hb3 HB.out.size)
      clear hb3 HC
      cases pb with
      | true =>
        have HR9 := Lib.hid (HRK.out rfl)
        clear HRK HPN
        go_wp2_with fail
        go_ret
        exact ⟨ret_int HR9.out.symm, HB3.out⟩
      | false =>
        have HP9 := Lib.hid (HPN.out rfl)
        clear HRK HPN
        go_wp2_with fail
        go_roundw
        case rel => exact ⟨k + 1, by go_num, by omega, HP9, HB3⟩
        case measure => simp [intOf]; omega
    · have hkI : ¬ (k : Int) < (l.length : Int) := by omega
      have HR9 := Lib.hid (HRN.out (fun j hj => HPR.out j hj (by omega)))
      go_wp2_with fail
      go_ret
      exact ⟨ret_int HR9.out.symm, HB.out⟩

set_option maxRecDepth 100000 in
theorem findDelivery (l : List Dl) (p : Dl → Bool) (K : Nat) (caps : Array Value) (v : Value) (w : World) (hx : IsDls w v l) (hK : CanCall K)
    (hf : ∀ (i : Nat) (h : i < l.length) (W : World), Below w.heap.size w W → Calls Try.prog K (#[.agg (litDl l[i])] ++ caps) W fun e w' => e = .returned (.bool (p l[i])) ∧ Below W.heap.size W w') :
    Calls Try.prog 52 #[v, .func (.func K) #[] caps] w fun e w' => e = .returned (.int .i64 (idxF p l)) ∧ Below w.heap.size w w' := by
  have HI := Lib.hid (idxDelivery l p K caps v w hx hK hf)
  obtain ⟨a, c, rfl, -, -⟩ := hx.open
  clear hx hK hf
  go_enter Try.func52, Try.ntmps52
  go_wp2_with fail
  refine HI.out.mono ?_
  rintro e w3 ⟨rfl, hb3⟩
  have HB3 := Lib.hid hb3
  clear hb3
  go_wp2_with fail
  go_ret
  exact ⟨rfl, HB3.out⟩

set_option maxHeartbeats 2000000 in
set_option maxRecDepth 100000 in
theorem idxReport (l : List Rp) (p : Rp → Bool) (K : Nat) (caps : Array Value) (v : Value) (w : World) (hx : IsRps w v l) (hK : CanCall K)
    (hf : ∀ (i : Nat) (h : i < l.length) (W : World), Below w.heap.size w W → Calls Try.prog K (#[.agg (litRp l[i])] ++ caps) W fun e w' => e = .returned (.bool (p l[i])) ∧ Below W.heap.size W w') :
    Calls Try.prog 83 #[v, .func (.func K) #[] caps] w fun e w' => e = .returned (.int .i64 (idxF p l)) ∧ Below w.heap.size w w' := by
  have HX := Lib.hid hx
  have HFN := Lib.hid hf
  obtain ⟨a, c, rfl, hlm, -⟩ := hx.open
  unfold maxLen at hlm
  obtain ⟨R, hR⟩ : ∃ R, idxF p l = R := ⟨_, rfl⟩
  have HRH : Hid (∀ k (hk : k < l.length), (∀ j (h : j < l.length), j < k → p l[j] = false) → p l[k] = true → R = (k : Int)) := fun k hk h1 h2 => by rw [← hR]; exact idxF_here hk h1 h2
  have HRN : Hid ((∀ j (h : j < l.length), p l[j] = false) → R = -1) := fun h1 => by rw [← hR]; exact idxF_none h1
  rw [hR]
  have HK := Lib.hid hK
  clear hx hf hR hK
  go_enter Try.func83, Try.ntmps83
  go_wp2_with fail
  go_loopw [8] (fun i wr => ∃ k : Nat, i = .int .i64 k ∧ k ≤ l.length ∧ Hid (∀ j (h : j < l.length), j < k → p l[j] = false) ∧ Hid (Below w.heap.size w wr)) (fun i _ => l.length - (intOf i).toNat)
  case atStart => exact ⟨0, rfl, Nat.zero_le _, fun j _ h => absurd h (Nat.not_lt_zero _), Lib.hid (Below.refl _ _)⟩
  case round =>
    obtain ⟨k, rfl, hk, HPR, HB⟩ := hrel
    by_cases hkl : k < l.length
    · have ek : IntKind.i64.wrap ((k : Int) + 1) = ((k + 1 : Nat) : Int) := by rw [IntKind.wrap_i64]; omega
      obtain ⟨b1, o1, q1, e1, -, x0, x1, x2, x3, x4, x5⟩ := (HX.out.below HB.out).at hkl
      simp only [Value.slice.injEq, true_and] at e1
      obtain ⟨rfl, -⟩ := e1
      have hkI : (k : Int) < (l.length : Int) := by omega
      have HC := Lib.hid (HFN.out k hkl wr HB.out)
      have HRK := Lib.hid (HRH.out k hkl HPR.out)
      have HPN : Hid (p l[k] = false → ∀ j (h : j < l.length), j < k + 1 → p l[j] = false) := fun h j hj hjk => by
        rcases Nat.lt_succ_iff_lt_or_eq.1 hjk with g | rfl
        · exact HPR.out j hj g
        · exact h
      obtain ⟨pb, hpb⟩ : ∃ b, p l[k] = b := ⟨_, rfl⟩
      rw [hpb] at HC HRK HPN
      clear hpb
      generalize l[k] = s at *
      obtain ⟨s0, s1, ⟨s2, s3, s4, s5⟩⟩ := s
      simp only at x0 x1 x2 x3 x4 x5
      go_wp2_with fail
      rw [HK.out, Oper.upon_enter]
      refine HC.out.mono ?_
      rintro e w3 ⟨rfl, hb3⟩
      have HB3 := Lib.hid (Below.to HB.out hb3 HB.out.size)
      clear hb3 HC
      cases pb with
      | true =>
        have HR9 := Lib.hid (HRK.out rfl)
        clear HRK HPN
        go_wp2_with fail
        go_ret
        exact ⟨ret_int HR9.out.symm, HB3.out⟩
      | false =>
        have HP9 := Lib.hid (HPN.out rfl)
        clear HRK HPN
        go_wp2_with fail
        go_roundw
        case rel => exact ⟨k + 1, by go_num, by omega, HP9, HB3⟩
        case measure => simp [intOf]; omega
    · have hkI : ¬ (k : Int) < (l.length : Int) := by omega
      have HR9 := Lib.hid (HRN.out (fun j hj => HPR.out j hj (by omega)))
      go_wp2_with fail
      go_ret
      exact ⟨ret_int HR9.out.symm, HB.out⟩

end Go.Proofs.Ytbiedadgejgnoaa
