/-
  The laws of returns in plain words: what follows from Alw. No program in sight.
-/
import Derived.Test.YtbiedadgejgnoaaRtY
import Derived.Test.YtbiedadgejgnoaaRtO
namespace Go.Proofs.Ytbiedadgejgnoaa

/-! ### the least excess -/
theorem least_some {f : Int → Int} (h0 : ∀ d, 0 ≤ f d) {P : Int → Prop} (hne : ∃ p, P p) : ∃ p, P p ∧ ∀ q, P q → f p ≤ f q := by
  have key : ∀ n : Nat, ∀ p, P p → f p ≤ n → ∃ p, P p ∧ ∀ q, P q → f p ≤ f q := by
    intro n
    induction n with
    | zero =>
      intro p hp hle
      exact ⟨p, hp, fun q _ => by have := h0 q; omega⟩
    | succ n ih =>
      intro p hp hle
      by_cases h : ∃ q, P q ∧ f q < f p
      · obtain ⟨q, hq, hlt⟩ := h
        exact ih q hq (by omega)
      · refine ⟨p, hp, fun q hq => ?_⟩
        by_cases hlt : f q < f p
        · exact absurd ⟨q, hq, hlt⟩ h
        · omega
  obtain ⟨p, hp⟩ := hne
  exact key (f p).toNat p hp (by have := h0 p; omega)
theorem excF_pos (l : List Ret) (cs : List (Int × Int)) (d : Int) : 0 ≤ excF l cs d := excTo_pos l cs d _
/-- Something is allowed. -/
theorem Alw.some {l : List Ret} {cs : List (Int × Int)} {sent : Int} {out : List (Int × Int)} {nv : Bool} (h : Alw l cs sent out nv) (hn : nv = false) : ∃ d, sent ≤ d ∧ d ≤ 3652058 ∧ Cov out d ∧ ∀ p, Poss sent p → excF l cs d ≤ excF l cs p := by
  obtain ⟨p, hp, hm⟩ := least_some (f := excF l cs) (excF_pos l cs) (P := Poss sent) ⟨-1, .inl rfl⟩
  rcases hp with rfl | ⟨h1, h2⟩
  · have := h.nev.2 hm
    rw [hn] at this
    cases this
  · exact ⟨p, h1, h2, (h.cov p).2 ⟨h1, h2, hm⟩, hm⟩
theorem Alw.pos {l : List Ret} {cs : List (Int × Int)} {sent : Int} {out : List (Int × Int)} (h : Alw l cs sent out false) : 0 < out.length := by
  obtain ⟨d, -, -, ⟨s, hs, -⟩, -⟩ := h.some rfl
  exact List.length_pos_of_mem hs

/-! ### a further return -/
theorem nW_more (l : List Ret) (r : Ret) (c d : Int) : nW l c d ≤ nW (l ++ [r]) c d := by rw [nW_append]; omega
theorem nW_right {r : Ret} {d : Int} (l : List Ret) (h : wrongB r d = false) (c : Int) : nW (l ++ [r]) c d = nW l c d := by
  rw [nW_append]
  simp [nW, h]
theorem excTo_mono {l m : List Ret} {cs : List (Int × Int)} {d e : Int} (h : ∀ c : Nat, nW l c d ≤ nW m c e) : ∀ k, excTo l cs d k ≤ excTo m cs e k
  | 0 => Int.le_refl _
  | k + 1 => by
    have h1 := excTo_mono (cs := cs) h k
    have h2 := h k
    show excTo l cs d k + exTerm l cs d k ≤ excTo m cs e k + exTerm m cs e k
    unfold exTerm
    omega
theorem excF_more (l : List Ret) (r : Ret) (cs : List (Int × Int)) (d : Int) : excF l cs d ≤ excF (l ++ [r]) cs d := excTo_mono (fun c => nW_more l r c d) _
theorem excF_right {r : Ret} {d : Int} (l : List Ret) (cs : List (Int × Int)) (h : wrongB r d = false) : excF (l ++ [r]) cs d = excF l cs d := excTo_congr (fun c => nW_right l h c) _

theorem Alw.agree {l : List Ret} {cs : List (Int × Int)} {sent : Int} {out out' : List (Int × Int)} {nv' : Bool} {r : Ret} (h : Alw l cs sent out false) (hr : ∀ d, Cov out d → wrongB r d = false) (h' : Alw (l ++ [r]) cs sent out' nv') : out' = out ∧ nv' = false := by
  obtain ⟨d0, a0, b0, c0, m0⟩ := h.some rfl
  have hn : Alw (l ++ [r]) cs sent out false := by
    refine ⟨h.val, h.apart, fun d => ?_, ?_⟩
    · constructor
      · intro hc
        obtain ⟨h1, h2, h3⟩ := (h.cov d).1 hc
        refine ⟨h1, h2, fun p hp => ?_⟩
        rw [excF_right l cs (hr d hc)]
        have := h3 p hp
        have := excF_more l r cs p
        omega
      · rintro ⟨h1, h2, h3⟩
        refine (h.cov d).2 ⟨h1, h2, fun p hp => ?_⟩
        have g1 := h3 d0 (.inr ⟨a0, b0⟩)
        rw [excF_right l cs (hr d0 c0)] at g1
        have g2 := m0 p hp
        have g3 := excF_more l r cs d
        omega
    · constructor
      · intro g; cases g
      · intro g
        refine h.nev.2 (fun p hp => ?_)
        have g1 := g d0 (.inr ⟨a0, b0⟩)
        rw [excF_right l cs (hr d0 c0)] at g1
        have g2 := m0 p hp
        have g3 := excF_more l r cs (-1)
        omega
  exact h'.eq hn (fun _ _ => rfl)
theorem Alw.keeps {l : List Ret} {cs : List (Int × Int)} {sent : Int} {out out' : List (Int × Int)} {nv nv' : Bool} {r : Ret} {d : Int} (h : Alw l cs sent out nv) (hc : Cov out d) (hr : wrongB r d = false) (hs : 0 ≤ sent) (h' : Alw (l ++ [r]) cs sent out' nv') : hasDay out' nv' d = true := by
  obtain ⟨h1, h2, h3⟩ := (h.cov d).1 hc
  refine (h'.has hs (.inr ⟨h1, h2⟩)).2 (fun p hp => ?_)
  rw [excF_right l cs hr]
  have := h3 p hp
  have := excF_more l r cs p
  omega

theorem apart_first : ∀ {A : List (Int × Int)}, Apart A → ValSp A → ∀ (h : 0 < A.length), ∀ s ∈ A, A[0].1 ≤ s.1
  | [], _, _, h => absurd h (Nat.not_lt_zero _)
  | _ :: _, ha, hv, _ => apart_head ha hv
theorem apart_last {A : List (Int × Int)} (ha : Apart A) (hv : ValSp A) (h : 0 < A.length) : ∀ s ∈ A, s.2 ≤ A[A.length - 1].2 := by
  intro s hs
  obtain ⟨i, hi, rfl⟩ := List.mem_iff_getElem.1 hs
  unfold Apart at ha
  rw [List.pairwise_iff_getElem] at ha
  rcases Nat.lt_or_ge i (A.length - 1) with hlt | hge
  · have h1 := ha i (A.length - 1) hi (by omega) hlt
    have h2 := hv A[A.length - 1] (List.getElem_mem _)
    omega
  · have : i = A.length - 1 := by omega
    subst this
    exact Int.le_refl _

/-! ### the true day -/
theorem excF_zero {l : List Ret} {cs : List (Int × Int)} {d : Int} (h : ∀ c (hc : c < cs.length), (nW l (c : Int) d : Int) ≤ cs[c].2) : excF l cs d = 0 := by
  have key : ∀ k, k ≤ cs.length → excTo l cs d k = 0 := by
    intro k
    induction k with
    | zero => intro _; rfl
    | succ k ih =>
      intro hk
      show excTo l cs d k + exTerm l cs d k = 0
      rw [ih (by omega)]
      have := h k (by omega)
      unfold exTerm
      rw [List.getD_eq_getElem?_getD, List.getElem?_eq_getElem (by omega)]
      simp only [Option.getD_some]
      omega
  exact key _ (Nat.le_refl _)
theorem Alw.truth {l : List Ret} {cs : List (Int × Int)} {sent : Int} {out : List (Int × Int)} {nv : Bool} {t : Int} (h : Alw l cs sent out nv) (hs : 0 ≤ sent) (ht : Poss sent t) (h0 : excF l cs t = 0) : hasDay out nv t = true :=
  (h.has hs ht).2 (fun p _ => by rw [h0]; exact excF_pos l cs p)
theorem servedF_true {out : List (Int × Int)} {nv : Bool} {x : Int} (h : (x, true) = servedF out nv) : nv = false ∧ ∃ h0 : 0 < out.length, x = out[out.length - 1].2 := by
  cases nv with
  | true => rw [servedF_none (.inl rfl)] at h; cases h
  | false =>
    refine ⟨rfl, ?_⟩
    by_cases h0 : 0 < out.length
    · rw [servedF_some h0] at h
      exact ⟨h0, by injection h⟩
    · have : out = [] := List.eq_nil_of_length_eq_zero (by omega)
      rw [servedF_none (.inr this)] at h
      cases h
theorem Alw.truthServed {l : List Ret} {cs : List (Int × Int)} {sent : Int} {out : List (Int × Int)} {nv : Bool} {t x : Int} (h : Alw l cs sent out nv) (hs : 0 ≤ sent) (ht : Poss sent t) (h0 : excF l cs t = 0) (hx : (x, true) = servedF out nv) : 0 ≤ t ∧ t ≤ x := by
  obtain ⟨hn, hl, rfl⟩ := servedF_true hx
  subst hn
  have hd := h.truth hs ht h0
  rcases ht with rfl | ⟨h1, h2⟩
  · rw [hasDay_neg (by omega)] at hd
    cases hd
  · rw [hasDay_pos (by omega)] at hd
    obtain ⟨s, hs', a, b⟩ := hd
    have := apart_last h.apart h.val hl s hs'
    exact ⟨by omega, by omega⟩

/-! ### the reasons -/
theorem servedF_cov {out : List (Int × Int)} {nv : Bool} {x : Int} (hv : ValSp out) (h : (x, true) = servedF out nv) : nv = false ∧ Cov out x := by
  obtain ⟨hn, hl, rfl⟩ := servedF_true h
  have hm : out[out.length - 1] ∈ out := List.getElem_mem _
  exact ⟨hn, _, hm, hv _ hm, Int.le_refl _⟩
theorem Alw.reason {l : List Ret} {cs : List (Int × Int)} {sent : Int} {out : List (Int × Int)} {nv : Bool} {x : Int} (h : Alw l cs sent out nv) (hx : (x, true) = servedF out nv) : ∃ r ∈ l, r.kind = 1 ∧ wrongB r x = false := by
  obtain ⟨hn, hc⟩ := servedF_cov h.val hx
  subst hn
  obtain ⟨h1, h2, h3⟩ := (h.cov x).1 hc
  by_cases hex : ∃ r ∈ l, r.kind = 1 ∧ wrongB r x = false
  · exact hex
  · refine absurd (h.nev.2 (fun p hp => ?_)) (by decide)
    refine Int.le_trans (excTo_mono (fun c => ?_) _) (h3 p hp)
    unfold nW
    refine List.countP_mono_left (fun r hrl hw => ?_)
    simp only [Bool.and_eq_true, decide_eq_true_eq] at hw ⊢
    refine ⟨hw.1, ?_⟩
    by_cases hk : r.kind = 1
    · by_cases hwx : wrongB r x = false
      · exact absurd ⟨r, hrl, hk, hwx⟩ hex
      · simpa using hwx
    · have hz := hw.2
      by_cases hk2 : r.kind = 2
      · rw [wrongB_2 hk2] at hz; simp at hz
      · rw [wrongB_3 hk hk2] at hz; simp at hz

/-- What is allowed without returns. -/
theorem excF_nil {cs : List (Int × Int)} (hc : CarOk cs) (d : Int) : excF [] cs d = 0 := excF_zero (fun c h => by
  have := hc cs[c] (List.getElem_mem _)
  simp [nW]
  omega)
theorem Alw.none {cs : List (Int × Int)} {sent : Int} {out : List (Int × Int)} {nv : Bool} (h : Alw [] cs sent out nv) (hc : CarOk cs) (hs : sent ≤ 3652058) : out = [(sent, 3652058)] ∧ nv = true := h.eq (alw_nil hs (excF_nil hc)) (fun _ _ => rfl)

/-! ### the days moved -/
def shR (k : Int) (l : List Ret) : List Ret := l.map (fun r => ⟨r.car, r.kind, r.fr + k, r.un + k⟩)
def Near1 (day : Int) (l : List Ret) : Prop := ∀ r ∈ l, r.kind = 1 ∧ day - 3 ≤ r.fr ∧ r.fr ≤ r.un ∧ r.un ≤ day + 40
theorem nW_map (f : Ret → Ret) (l : List Ret) {c d e : Int} (h : ∀ r ∈ l, (f r).car = r.car ∧ wrongB (f r) d = wrongB r e) : nW (l.map f) c d = nW l c e := by
  unfold nW
  rw [List.countP_map]
  exact List.countP_congr (fun r hr => by
    obtain ⟨h1, h2⟩ := h r hr
    simp only [Function.comp]
    rw [h1, h2])
theorem shR_exc {k day : Int} {l : List Ret} (hn : Near1 day l) (cs : List (Int × Int)) (d : Int) : excF (shR k l) cs d = excF l cs (d - k) := by
  refine excTo_congr (fun c => ?_) _
  unfold shR
  refine nW_map (fun r => ⟨r.car, r.kind, r.fr + k, r.un + k⟩) l (fun r hr => ⟨rfl, ?_⟩)
  have hk := (hn r hr).1
  rw [wrongB_1 hk, wrongB_1 (show (Ret.mk r.car r.kind (r.fr + k) (r.un + k)).kind = 1 from hk), Bool.eq_iff_iff]
  simp
  omega
theorem far_exc {day : Int} {l : List Ret} (hn : Near1 day l) (cs : List (Int × Int)) {d e : Int} (hd : d < day - 3 ∨ day + 40 < d) (he : e < day - 3 ∨ day + 40 < e) : excF l cs d = excF l cs e := excF_same (fun r hr => by
  obtain ⟨hk, h1, h2, h3⟩ := hn r hr
  rw [wrongB_1 hk, wrongB_1 hk, Bool.eq_iff_iff]
  simp
  omega)
/-- Only the days near the sending count. -/
theorem near_all {day sent : Int} {l : List Ret} {cs : List (Int × Int)} (hn : Near1 day l) (h0 : 3 ≤ day) (h1 : day + 40 < 3652058) (hs : sent = day) (X : Int) : (∀ p, Poss sent p → X ≤ excF l cs p) ↔ (X ≤ excF l cs (-1) ∧ ∀ d, day ≤ d → d ≤ day + 40 → X ≤ excF l cs d) := by
  subst hs
  constructor
  · intro h
    exact ⟨h _ (.inl rfl), fun d a b => h d (.inr ⟨a, by omega⟩)⟩
  · rintro ⟨h, h'⟩ p hp
    rcases hp with rfl | ⟨a, b⟩
    · exact h
    · by_cases hd : p ≤ sent + 40
      · exact h' p a hd
      · rw [far_exc hn cs (.inr (by omega)) (.inl (by omega : (-1 : Int) < sent - 3))]
        exact h
theorem shR_near {k day : Int} {l : List Ret} (hn : Near1 day l) : Near1 (day + k) (shR k l) := fun r hr => by
  obtain ⟨s, hs, rfl⟩ := List.mem_map.1 hr
  obtain ⟨h1, h2, h3, h4⟩ := hn s hs
  exact ⟨h1, by simp only; omega, by simp only; omega, by simp only; omega⟩
theorem Alw.near {day : Int} {l : List Ret} {cs : List (Int × Int)} {out : List (Int × Int)} (hn : Near1 day l) (h0 : 3 ≤ day) (h1 : day + 40 < 3652058) (h : Alw l cs day out false) (d : Int) : Cov out d ↔ (day ≤ d ∧ d ≤ day + 40 ∧ excF l cs d ≤ excF l cs (-1) ∧ ∀ e, day ≤ e → e ≤ day + 40 → excF l cs d ≤ excF l cs e) := by
  rw [h.cov d, near_all hn h0 h1 rfl]
  constructor
  · rintro ⟨a, b, c, e⟩
    refine ⟨a, ?_, c, e⟩
    by_cases hd : d ≤ day + 40
    · exact hd
    · rw [far_exc hn cs (.inr (by omega : day + 40 < d)) (.inl (by omega : (-1 : Int) < day - 3))] at e
      exact absurd (h.nev.2 ((near_all hn h0 h1 rfl _).2 ⟨Int.le_refl _, e⟩)) (by decide)
  · rintro ⟨a, b, c, e⟩
    exact ⟨a, by omega, c, e⟩
theorem Alw.moves {day k : Int} {l : List Ret} {cs : List (Int × Int)} {out out' : List (Int × Int)} {nv nv' : Bool} (hn : Near1 day l) (h0 : 3 ≤ day) (h1 : day + 40 < 3652058) (k0 : 3 ≤ day + k) (k1 : day + k + 40 < 3652058) (h : Alw l cs day out nv) (h' : Alw (shR k l) cs (day + k) out' nv') : nv' = nv ∧ (nv = false → out' = shiftS k out) := by
  have hn' := shR_near (k := k) hn
  have hm1 : excF (shR k l) cs (-1) = excF l cs (-1) := by
    rw [shR_exc hn]
    exact far_exc hn cs (.inl (by omega)) (.inl (by omega))
  have hnv : nv' = nv := by
    rw [Bool.eq_iff_iff, h'.nev, h.nev, near_all hn' k0 k1 rfl, near_all hn h0 h1 rfl, hm1]
    refine and_congr Iff.rfl ⟨fun g d a b => ?_, fun g d a b => ?_⟩
    · have := g (d + k) (by omega) (by omega)
      rw [shR_exc hn, show d + k - k = d from by omega] at this
      exact this
    · rw [shR_exc hn]
      exact g (d - k) (by omega) (by omega)
  refine ⟨hnv, fun hf => ?_⟩
  subst hf
  subst hnv
  refine apart_eq _ _ h'.val (shift_val h.val) h'.apart (shift_apart h.apart) (fun d => ?_)
  rw [shift_cov, h.near hn h0 h1, h'.near hn' k0 k1, shR_exc hn, hm1]
  constructor
  · rintro ⟨a, b, c, e⟩
    refine ⟨by omega, by omega, c, fun x x1 x2 => ?_⟩
    have := e (x + k) (by omega) (by omega)
    rw [shR_exc hn, show x + k - k = x from by omega] at this
    exact this
  · rintro ⟨a, b, c, e⟩
    refine ⟨by omega, by omega, c, fun x x1 x2 => ?_⟩
    rw [shR_exc hn]
    exact e (x - k) (by omega) (by omega)
theorem servedF_moves {out out' : List (Int × Int)} {nv nv' : Bool} {k x y : Int} {b c : Bool} (h : nv' = nv ∧ (nv = false → out' = shiftS k out)) (hx : (x, b) = servedF out nv) (hy : (y, c) = servedF out' nv') : b = c ∧ (b = true → y = x + k) := by
  obtain ⟨rfl, h⟩ := h
  cases nv' with
  | true =>
    rw [servedF_none (.inl rfl)] at hx hy
    cases hx; cases hy
    exact ⟨rfl, fun h => by cases h⟩
  | false =>
    have ho := h rfl
    subst ho
    by_cases h0 : 0 < out.length
    · have hl : (shiftS k out).length = out.length := by simp [shiftS]
      rw [servedF_some h0] at hx
      rw [servedF_some (by rw [hl]; exact h0)] at hy
      injection hx with x1 x2
      injection hy with y1 y2
      subst x1 x2 y1 y2
      refine ⟨rfl, fun _ => ?_⟩
      simp [shiftS]
    · have hz : out = [] := List.eq_nil_of_length_eq_zero (by omega)
      subst hz
      rw [servedF_none (.inr rfl)] at hx
      rw [servedF_none (.inr (by simp [shiftS]))] at hy
      cases hx; cases hy
      exact ⟨rfl, fun h => by cases h⟩

/-! ### the least excess near the sending -/
def FarR (day : Int) (l : List Ret) : Prop := ∀ r ∈ l, r.un ≤ day + 40
theorem far_same {day : Int} {l : List Ret} (hn : FarR day l) (hd : 0 ≤ day) (cs : List (Int × Int)) {d e : Int} (h1 : day + 40 < d) (h2 : day + 40 < e) : excF l cs d = excF l cs e := excF_same (fun r hr => by
  have h3 := hn r hr
  by_cases k1 : r.kind = 1
  · rw [wrongB_1 k1, wrongB_1 k1, Bool.eq_iff_iff]; simp; omega
  · by_cases k2 : r.kind = 2
    · rw [wrongB_2 k2, wrongB_2 k2, Bool.eq_iff_iff]; simp; omega
    · rw [wrongB_3 k1 k2, wrongB_3 k1 k2, Bool.eq_iff_iff]; simp; omega)
/-- The i-th possibility. -/
def dayAt (day : Int) (i : Nat) : Int := if i = 0 then -1 else day + (i : Int) - 1
theorem dayAt_0 (day : Int) : dayAt day 0 = -1 := rfl
theorem dayAt_S (day : Int) (i : Nat) : dayAt day (i + 1) = day + (i : Int) := by unfold dayAt; rw [if_neg (by omega)]; omega
theorem dayAt_poss {day : Int} {i n : Nat} (hi : i < n) (hn : day + (n : Int) - 2 ≤ 3652058) : Poss day (dayAt day i) := by
  cases i with
  | zero => exact .inl rfl
  | succ i => rw [dayAt_S]; exact .inr ⟨by omega, by omega⟩
/-- The least of the first n possibilities is the least of all. -/
theorem Alw.least {day : Int} {l : List Ret} {cs : List (Int × Int)} {out : List (Int × Int)} {nv : Bool} {n : Nat} {least : Int} (hn : FarR day l) (hd : 0 ≤ day) (h : Alw l cs day out nv) (hn1 : 1 ≤ n) (hn2 : n = 61 ∨ day + (n : Int) - 1 > 3652058) (hn3 : day + (n : Int) - 2 ≤ 3652058) (hle : ∀ i, i < n → least ≤ excF l cs (dayAt day i)) (hhit : ∃ i, i < n ∧ least = excF l cs (dayAt day i)) (i : Nat) (hi : i < n) : hasDay out nv (dayAt day i) = decide (excF l cs (dayAt day i) = least) := by
  rw [Bool.eq_iff_iff, h.has hd (dayAt_poss hi hn3), decide_eq_true_iff]
  have hall : ∀ p, Poss day p → least ≤ excF l cs p := by
    intro p hp
    rcases hp with rfl | ⟨a, b⟩
    · exact hle 0 (by omega)
    · by_cases hp : p ≤ day + 59
      · have := hle ((p - day).toNat + 1) (by omega)
        rw [dayAt_S, show day + ((p - day).toNat : Int) = p from by omega] at this
        exact this
      · have := hle (41 + 1) (by omega)
        rw [dayAt_S] at this
        rw [far_same hn hd cs (by omega : day + 40 < p) (by omega : day + 40 < day + ((41 : Nat) : Int))]
        exact this
  constructor
  · intro g
    obtain ⟨j, hj, he⟩ := hhit
    have := g _ (dayAt_poss hj hn3)
    have := hle i hi
    omega
  · intro g p hp
    rw [g]
    exact hall p hp

end Go.Proofs.Ytbiedadgejgnoaa
