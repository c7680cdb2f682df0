/-
  A region that draws its order, within a round of a range over a function: where its operations call no Go function and defer nothing, the walk that serves outside a round serves there, too. No program in sight.
-/
import Derived.StillTailTactics
import Derived.Deep.QuietTactic
import Derived.OrdersIn
import Derived.OwnWalkIn
namespace Go.Proofs.Ytgfnelpfoegdaaa

/-- The operation calls no Go function and defers nothing. -/
def calm (o : Oper) : Bool :=
  match o.op with
  | .move _ | .assign _ | .load _ _ | .slice _ _ _ _ _ | .fieldAddr _ _ _ | .indexAddr _ _ _ | .binOp _ _ _ _ _ | .build _ _ | .buildSlice _ _ _ | .alloc _ | .box _ _ | .store _ _ _ | .makeSlice _ _ _ | .pick _ _ _ | .unOp _ _ _ => true
  | .call c => match c.callee with
    | .builtin .copy | .builtin .append | .builtin .len => true
    | _ => false
  | _ => false

/-- How such an operation ends. -/
def Calmly (r : Result Next) : Prop := (∃ v w', r = .ok (.value v) w') ∨ (∃ w', r = .ok .skip w') ∨ ∃ h w', r = .halt h w'

theorem calmly_v {P : Program} (s : Sem Value) (w : World) : Calmly ((do pure (Next.value (← s)) : Sem Next).run P w) := by
  rw [Sem.run_bind]
  cases s.run P w with
  | ok v w' => exact .inl ⟨v, w', rfl⟩
  | halt h w' => exact .inr (.inr ⟨h, w', rfl⟩)

theorem calmly_b {P : Program} (s : Sem Bool) (f : Bool → Value) (w : World) : Calmly ((do let b ← s; pure (Next.value (f b)) : Sem Next).run P w) := by
  rw [Sem.run_bind]
  cases s.run P w with
  | ok v w' => exact .inl ⟨_, w', rfl⟩
  | halt h w' => exact .inr (.inr ⟨h, w', rfl⟩)

theorem calmly_r (r : Result Value) : Calmly (r.andThen fun v w' => Result.ok (Next.value v) w') := by
  cases r with
  | ok v w' => exact .inl ⟨v, w', rfl⟩
  | halt h w' => exact .inr (.inr ⟨h, w', rfl⟩)

theorem calmly_u {P : Program} (s : Sem Unit) (w : World) : Calmly ((do s; pure Next.skip : Sem Next).run P w) := by
  rw [Sem.run_bind]
  cases s.run P w with
  | ok v w' => exact .inr (.inl ⟨w', rfl⟩)
  | halt h w' => exact .inr (.inr ⟨h, w', rfl⟩)

theorem calmly_of_calm {P : Program} {o : Oper} (h : calm o = true) (ρ : Operand → Value) (w : World) : Calmly ((execOp ρ o).run P w) := by
  obtain ⟨dst, op, type, pos, after, guard⟩ := o
  unfold execOp
  cases op
  all_goals first
    | exact absurd h Bool.false_ne_true
    | exact calmly_v _ w
    | exact calmly_u _ w
    | exact calmly_b _ _ w
    | exact .inl ⟨_, _, rfl⟩
    | skip
  rename_i c
  obtain ⟨callee, args, argTypes⟩ := c
  cases callee with
  | value f => exact absurd h Bool.false_ne_true
  | invoke r m => exact absurd h Bool.false_ne_true
  | builtin b =>
    cases b
    all_goals first
      | exact absurd h Bool.false_ne_true
      | (simp only [resolve, Sem.run_bind, Sem.run_pure, Result.andThen_ok, invoke, builtin]; exact calmly_r _)

theorem calm_no_defer {o : Oper} (h : calm o = true) : ∀ c, o.op ≠ .defer c := by
  intro c e
  unfold calm at h
  rw [e] at h
  cases h

theorem wpIn_of_wp_calm {P : Program} {l n : Nat} {o : Oper} {a : Act} {w : World} {K : Act → World → Prop} {Q : Exit → Act → World → Prop} (h : calm o = true) (hw : o.wp P a w K Q) :
    o.wpIn (Fence.wide.inRound l) n P a w K Q := by
  refine ⟨fun _ _ => trivial, ?_⟩
  rw [Oper.semAt_plain _ _ _ (calm_no_defer h)]
  unfold Oper.wp at hw
  rcases calmly_of_calm (P := P) h a.eval w with ⟨v, w', e⟩ | ⟨w', e⟩ | ⟨x, w', e⟩
  · rw [e] at hw ⊢; exact hw
  · rw [e] at hw ⊢; exact hw
  · rw [e] at hw ⊢
    cases x <;> first | exact hw | exact hw.elim

theorem wpAnyIn_of_wpAny {P : Program} {l n : Nat} {ops : Array Oper} {Q : Exit → Act → World → Prop} {md : Region.Mode} (hc : ∀ (i : Nat) o, ops[i]? = some o → calm o = true) (hQ : ¬ LetsOut Q) :
    ∀ (fuel : Nat) (listed : Array Bool) (a : Act) (w : World), wpAny P md ops Q fuel listed a w → wpAnyIn (Fence.wide.inRound l) n P md ops Q fuel listed a w
  | 0, listed, a, w, h => h
  | fuel + 1, listed, a, w, h => by
    refine ⟨h.1, fun i hi => ?_⟩
    have h1 := h.2 i hi
    unfold wpOp at h1
    unfold wpOpIn
    cases ho : ops[i]? with
    | none =>
      rw [ho] at h1
      exact wpAnyIn_of_wpAny hc hQ fuel _ _ _ h1
    | some o =>
      rw [ho] at h1
      simp only at h1 ⊢
      split
      · rename_i hwant
        rw [if_pos hwant] at h1
        rcases h1 with h1 | h1
        · exact Oper.wpIn_mono (fun a w hh => wpAnyIn_of_wpAny hc hQ fuel _ a w hh) (wpIn_of_wp_calm (hc i o ho) h1)
        · exact absurd h1.2 hQ
      · rename_i hwant
        rw [if_neg hwant] at h1
        exact ⟨fun _ _ => trivial, wpAnyIn_of_wpAny hc hQ fuel _ _ _ h1⟩

/-- A region that draws its order in a round: all but the last operations only read; the last ones come in the order of the text. -/
theorem wpIn_region_still_tail {P : Program} {lp d : Nat} {id : Nat} {Q : Exit → Act → World → Prop} {a : Act} {w : World} {l : List Oper} (n : Nat) (hm : P.follows .mixedOrders = true) (hB : Region.lexTailB .any l.toArray n = true)
    (hcalm : l.all calm = true) (hQ : ¬ LetsOut Q)
    (h : wpStill P l.toArray w.drew (fun a' => wpList P l.toArray Q (l.drop n) a' w.drew) (l.take n) a) : (Code.region id l.toArray true).wpIn (Fence.wide.inRound lp) d P Q a w := by
  simp only [Region.lexTailB, Bool.and_eq_true, decide_eq_true_eq] at hB
  obtain ⟨⟨⟨⟨hsel, hn⟩, hs⟩, hc⟩, hlex⟩ := hB
  have htl : (l.take n).length = n := by simp at hn ⊢; omega
  have hdl : (l.drop n).length = l.toArray.size - n := by simp
  have inv0 : HeadInv .any l.toArray n (Array.replicate l.toArray.size false) :=
    ⟨by simp, fun j oj _ hl => (by rw [getD_replicate_false] at hl; cases hl), fun t _ ht => getD_in (by simpa using ht) (getD_replicate_false _ _)⟩
  have H := wpAnyL_lex (md := .any) (g := l.toArray.size - n) hsel hs hc hn (l.take n) 0 _ a (fun j hj => by
    have hj' : j < n := by rw [htl] at hj; exact hj
    simp [hj']) (by simpa using htl) inv0 (by rw [htl]; exact hlex) h
  refine wpIn_region_any hm (wpAnyIn_of_wpAny (fun i o ho => ?_) hQ _ _ _ _ ?_)
  · rw [List.all_eq_true] at hcalm
    exact hcalm o (by simpa using List.mem_of_getElem? (by simpa using ho))
  · have := wpAny_of_head (Q' := Q) (g := l.toArray.size - n) (fun listed a' hL => by
      have := wpAny_of_seq (md := .any) (Q' := Q) (l.drop n) n listed a' w.drew (fun j => by simp [List.getElem?_drop]) (by rw [hdl]; exact hL.1) hL.2
      rwa [hdl] at this) _ _ _ H
    rw [htl, show n + (l.toArray.size - n) = l.toArray.size by simp at hn ⊢; omega] at this
    exact this

/-- A statement behind a wall that no unfolding goes through. -/
structure Shut (p : Prop) : Prop where
  out : p

/-- One operation of the lexical walk; what follows is hidden (a type that unfolds costs too much where many guards are false). -/
theorem wpQuiet_step_h {P : Program} {ops : Array Oper} {C : World → Prop} {Q : Act → Prop} {a : Act} {o : Oper} {rest : List Oper}
    (h : ∀ K : Act → Prop, (∀ a, Shut (wpQuiet P ops C Q rest a) → K a) → if Region.wanted o (yielded ops a.tmps) then o.quiet P a C K else K (a.put o.dst undef)) : Shut (wpQuiet P ops C Q (o :: rest) a) :=
  Shut.mk (wpQuiet_step (fun K hK => h K (fun a h => hK a h.out)))

/-- A region that draws its order in a round and only reads: walked once, in the order of the text. -/
theorem wpIn_region_quiet_calm {P : Program} {lp d : Nat} {id : Nat} {Q : Exit → Act → World → Prop} {a : Act} {w : World} {l : List Oper} (hm : P.follows .mixedOrders = true) (hB : Region.lexB .any l.toArray = true)
    (hcalm : l.all calm = true) (hQ : ¬ LetsOut Q)
    (h : wpQuiet P l.toArray (fun w' => ∃ n, w' = w.drewN n) (fun a' => ∀ w', (∃ n, w' = w.drewN n) → Q .normal a' w') l a) : (Code.region id l.toArray true).wpIn (Fence.wide.inRound lp) d P Q a w := by
  simp only [Region.lexB, Bool.and_eq_true] at hB
  refine wpIn_region_any hm (wpAnyIn_of_wpAny (fun i o ho => ?_) hQ _ _ _ _ (wpAny_of_quiet (C := fun w' => ∃ n, w' = w.drewN n) (Q := fun a' => ∀ w', (∃ n, w' = w.drewN n) → Q .normal a' w') (fun _ w' hw' h => h w' hw') _ _ _ _ ⟨1, rfl⟩ ?_))
  · rw [List.all_eq_true] at hcalm
    exact hcalm o (by simpa using List.mem_of_getElem? (by simpa using ho))
  · have := wpAnyQ_lex (C := fun w' => ∃ n, w' = w.drewN n) (md := .any) hB.1 l 0 (Array.replicate l.toArray.size false) a (by simp) (by simpa using hB.2) h
    simpa using this

end Go.Proofs.Ytgfnelpfoegdaaa
