/-
  The examples of chapter 21 in plain words.
-/
import Derived.Test.YtdhiefgbajogcaaRtO
import Derived.Test.YtdhiefgbajogcaaSvH
namespace Go.Proofs.Ytdhiefgbajogcaa
open Go.RowKit

def exS : List (Int × Int) := [(3, 0), (0, 1)]
def exR : Ret := ⟨1, 1, 104, 104⟩
def exA1 : At := ⟨5, 2, 0, 100, []⟩
def exA2 : At := ⟨5, 2, 0, 100, [exFirst]⟩
def exB1 : At := ⟨5, 2, 1, 101, []⟩
def exB2 : At := ⟨5, 2, 1, 101, [exR]⟩
def exB3 : At := ⟨5, 2, 1, 101, [exR, exR]⟩

theorem exs2 (l : List Ret) (d : Int) : excF l exS d = max 0 ((nW l 0 d : Int) - 0) + max 0 ((nW l 1 d : Int) - 1) := by
  show (0 : Int) + max 0 ((nW l _ d : Int) - 0) + max 0 ((nW l _ d : Int) - 1) = _
  rw [Int.zero_add]
  rfl

theorem alw_lit2 {l : List Ret} {cs : List (Int × Int)} {sent : Int} {out : List (Int × Int)} {nv : Bool} (least : Int) (hv : ValSp out) (ha : Apart out) (hc : ∀ s ∈ out, sent ≤ s.1 ∧ s.2 ≤ 3652058) (h1 : ∀ d, sent ≤ d → d ≤ 3652058 → (Cov out d ↔ excF l cs d = least))
    (h2 : ∀ p, Poss sent p → least ≤ excF l cs p) (h3 : ∃ p, Poss sent p ∧ excF l cs p = least) (h4 : nv = true ↔ excF l cs (-1) = least) : Alw l cs sent out nv := by
  obtain ⟨q, hq, hqe⟩ := h3
  refine ⟨hv, ha, fun d => ⟨fun h => ?_, fun ⟨g1, g2, g3⟩ => ?_⟩, h4.trans ⟨fun h p hp => by rw [h]; exact h2 p hp, fun h => ?_⟩⟩
  · obtain ⟨s, hs, g1, g2⟩ := h
    have hb := hc s hs
    have hd1 : sent ≤ d := by omega
    have hd2 : d ≤ 3652058 := by omega
    refine ⟨hd1, hd2, fun p hp => ?_⟩
    rw [(h1 d hd1 hd2).1 ⟨s, hs, g1, g2⟩]
    exact h2 p hp
  · refine (h1 d g1 g2).2 ?_
    have := g3 q hq
    have := h2 d (.inr ⟨g1, g2⟩)
    omega
  · have := h q hq
    have := h2 (-1) (.inl rfl)
    omega

theorem exR_w (d : Int) : wrongB exR d = true ↔ (d < 104 ∨ 104 < d) := by
  rw [wrongB_1 rfl, Bool.or_eq_true, decide_eq_true_eq, decide_eq_true_eq]; exact Iff.rfl
theorem exs_one (d : Int) : excF [exFirst] exS d = if d < 103 ∨ 105 < d then 1 else 0 := by
  rw [exs2]
  by_cases hp : d < 103 ∨ 105 < d
  · simp only [nW_cons, nW_nil, exFirst_w, show exFirst.car = 0 from rfl, hp]; decide
  · simp only [nW_cons, nW_nil, exFirst_w, show exFirst.car = 0 from rfl, hp]; decide
theorem exs_R (d : Int) : excF [exR] exS d = 0 := by
  rw [exs2]
  by_cases hp : d < 104 ∨ 104 < d
  · simp only [nW_cons, nW_nil, exR_w, show exR.car = 1 from rfl, hp]; decide
  · simp only [nW_cons, nW_nil, exR_w, show exR.car = 1 from rfl, hp]; decide
theorem exs_RR (d : Int) : excF [exR, exR] exS d = if d < 104 ∨ 104 < d then 1 else 0 := by
  rw [exs2]
  by_cases hp : d < 104 ∨ 104 < d
  · simp only [nW_cons, nW_nil, exR_w, show exR.car = 1 from rfl, hp]; decide
  · simp only [nW_cons, nW_nil, exR_w, show exR.car = 1 from rfl, hp]; decide
theorem exs_nil (d : Int) : excF [] exS d = 0 := by rw [exs2]; simp [nW_nil, mx0]

theorem svd_A1 : Svd [] exS 100 (0, false) := ⟨_, _, alw_nil (by omega) exs_nil, rfl⟩
theorem svd_B1 : Svd [] exS 101 (0, false) := ⟨_, _, alw_nil (by omega) exs_nil, rfl⟩
theorem svd_A2 : Svd [exFirst] exS 100 (105, true) := by
  refine ⟨[(103, 105)], false, alw_lit2 0 (val_one (by omega)) (apart_one _) (by simp) (fun d h1 h2 => ?_) (fun p hp => ?_) ⟨103, .inr (by omega), ?_⟩ ?_, rfl⟩
  · rw [cov_one, exs_one]; split <;> omega
  · rw [exs_one]; split <;> omega
  · rw [exs_one]; rfl
  · rw [exs_one]; simp
theorem svd_B2 : Svd [exR] exS 101 (0, false) := by
  refine ⟨[(101, 3652058)], true, alw_lit2 0 (val_one (by omega)) (apart_one _) (by simp) (fun d h1 h2 => ?_) (fun p hp => ?_) ⟨103, .inr (by omega), ?_⟩ ?_, rfl⟩
  · rw [cov_one, exs_R]; simp; omega
  · rw [exs_R]; omega
  · rw [exs_R]
  · rw [exs_R]; simp
theorem svd_B3 : Svd [exR, exR] exS 101 (104, true) := by
  refine ⟨[(104, 104)], false, alw_lit2 0 (val_one (by omega)) (apart_one _) (by simp) (fun d h1 h2 => ?_) (fun p hp => ?_) ⟨104, .inr (by omega), ?_⟩ ?_, rfl⟩
  · rw [cov_one, exs_RR]; split <;> omega
  · rw [exs_RR]; split <;> omega
  · rw [exs_RR]; rfl
  · rw [exs_RR]; simp

def exF (a : At) : Int × Bool := if a.car = 0 then (if a.own.length = 0 then (0, false) else (105, true)) else (if a.own.length < 2 then (0, false) else (104, true))

def ExAts (l : List At) : Prop := ∀ a ∈ l, a = exA1 ∨ a = exA2 ∨ a = exB1 ∨ a = exB2 ∨ a = exB3
theorem ExAts.svd {l : List At} (h : ExAts l) : ∀ a ∈ l, Svd a.own exS a.sent (exF a) := fun a ha => by
  rcases h a ha with rfl | rfl | rfl | rfl | rfl
  · exact svd_A1
  · exact svd_A2
  · exact svd_B1
  · exact svd_B2
  · exact svd_B3
theorem exS_ok : CarOk exS := fun c hc => by
  simp [exS] at hc
  rcases hc with rfl | rfl <;> decide
theorem ExAts.ok {l : List At} (h : ExAts l) : AtsOk exS.length l := fun a ha => by
  rcases h a ha with rfl | rfl | rfl | rfl | rfl <;> rfl
theorem ExAts.own {l : List At} (h : ExAts l) : ∀ a ∈ l, a.own.length ≤ 1000000 := fun a ha => by
  rcases h a ha with rfl | rfl | rfl | rfl | rfl <;> decide

theorem exs_begin1 : beginL exS.length [] exA1 = [exA1] := rfl
theorem exs_return1 : retL exS.length [exA1] 0 exFirst = [exA2] := rfl
theorem exs_begin2 : beginL exS.length [exA2] exB1 = [exA2, exB1] := rfl
theorem exs_return2 : retL exS.length [exA2, exB1] 1 exR = [exA2, exB2] := rfl
theorem exs_return3 : retL exS.length [exA2, exB2] 1 exR = [exA2, exB3] := rfl
theorem exs_e1 : chkA exS.length exA1 = 0 := rfl
theorem exs_e2 : retE exS.length [exA1] 0 exFirst = 0 := rfl
theorem exs_e3 : chkA exS.length exB1 = 0 := rfl
theorem exs_e4 : retE exS.length [exA2, exB1] 1 exR = 0 := rfl
theorem exs_e5 : retE exS.length [exA2, exB2] 1 exR = 0 := rfl
theorem exs_e6 : chkA exS.length ⟨0, 0, 2, 0, []⟩ = 5 := rfl
theorem exs_e7 : retE exS.length [exA2, exB3] 2 ⟨0, 0, 0, 0⟩ = 3 := rfl
theorem exs_of1 : ofF exF exS 5 2 [exA2] = some ⟨105, 3, 0⟩ := rfl
theorem exs_of2 : ofF exF exS 5 2 [exA2, exB2] = some ⟨105, 3, 0⟩ := rfl
theorem exs_of3 : ofF exF exS 5 2 [exA2, exB3] = some ⟨104, 0, 1⟩ := rfl
theorem exs_of4 : ofF exF exS 5 3 [exA2, exB3] = none := rfl
theorem exs_chk : chkL exS.length [exA2, exB3] = 0 := rfl

end Go.Proofs.Ytdhiefgbajogcaa
