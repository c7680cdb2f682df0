/-
  A range over a function whose iterator keeps a variable of its own in memory (block Bn), and whose body may leave the loop; the body is told that its element is the next one. No program in sight.
-/
import Derived.RangeFuncNested
import Derived.RangeFuncBound
import Derived.RangeFuncCalls
import Derived.RangeFuncLeaves
import Derived.Shelf.Abstract
import Derived.WalkKit
import Derived.OwnWalkIn
import Derived.TacticsInMore
import Derived.LoopNIn
import Derived.LoopIn
namespace Go.Proofs.YtkcmkpljpmfiaaaDoor
open Go.RowKit

variable {F : Fence} {n : Nat} {P : Program}

/-- What the iterator owes: it hands over the elements of a list that S lets; between the rounds it turns the block Bn alone. -/
def SeqV {α : Type} (F : Fence) (n : Nat) (P : Program) (g : Nat) (lb : Array Value) (encs : α → Array Value) (Kp : World → World → Prop) (S : List α → Prop) (Bn : Nat) (w : World) : Prop :=
  ∀ (l : Nat) (J Jx : List α → World → Prop) (W : World), w.grownBy W none → (∀ s X Y, J s X → X.grownBy Y (some Bn) → J s Y) →
    (∀ pre x W1, J pre W1 → (∃ post, S (pre ++ x :: post)) → YieldAt F (n - 1) P l (encs x) W1 fun e W' => (e = .returned (.bool true) ∧ J (pre ++ [x]) W' ∧ Kp W1 W') ∨ (e = .returned (.bool false) ∧ Jx (pre ++ [x]) W')) →
    J [] W →
    CallsIn F n P g (#[.func (.yield l) #[] #[]] ++ lb) W fun e W' => (∃ v, e = .returned v) ∧ ((∃ xs, S xs ∧ J xs W') ∨ (∃ pre, Jx pre W'))

/-- What the body owes at a round's end. -/
def postV {α : Type} (B : Nat) (Kp : World → World → Prop) (I : List α → World → Prop) (Ix : List α → World → Prop) (xs : List α) (W : World) : Exit → Act → World → Prop
  | .normal, _, W' => KeepsFrom B W W' ∧ Kp W W' ∧ I xs W'
  | .ret, _, W' => KeepsFrom B W W' ∧ Ix xs W'
  | _, _, _ => False

theorem wpIn_rangeFunc_V {α : Type} {g : Operand} {ps : Array Tmp} {assign body : Code} {Q : Exit → Act → World → Prop} {a : Act} {w : World}
    (hro : F.round = none) (h1 : 1 ≤ n) {gf : Nat} {lb : Array Value} (hg : a.eval g = .func (.func gf) #[] lb) (hFg : F.fn gf) (eg : ∀ args w, (callFunc gf args).run P w = .ok (.enter gf args) w)
    {encs : α → Array Value} {Kp : World → World → Prop} {S : List α → Prop} {Bn : Nat} (hseq : SeqV F (n - 1) P gf lb encs Kp S Bn w) (hBn : Bn < w.heap.size)
    (hKt : ∀ {A B C : World}, Kp A B → Kp B C → Kp A C) (hKb : ∀ (W : World) (l : Nat) (o : Obj), w.heap.size ≤ l → Kp W (W.putObj l o)) (hps : ∀ x, (encs x).size = ps.size)
    (I Ix : List α → World → Prop) (hI : ∀ s X Y row, I s X → X.grownBy Y row → (∀ r, row = some r → r = Bn ∨ (w.heap.size ≤ r ∧ ∃ o : Obj, X.heap[r]? = some o ∧ o.isCells = false)) → I s Y) (hIx : ∀ s X Y row, Ix s X → X.grownBy Y row → (∀ r, row = some r → r = Bn ∨ (w.heap.size ≤ r ∧ ∃ o : Obj, X.heap[r]? = some o ∧ o.isCells = false)) → Ix s Y) (h0 : I [] w) (a₁ : α → Act)
    (hassign : ∀ (l : Nat) (x : α) (W : World) (K : Act → World → Prop), K (a₁ x) W →
      assign.wpIn (F.inRound l) (n - 1 - 1) P (Exit.then K (fun _ _ _ => False)) { tmps := (ps.zip (encs x)).foldl (fun t (p, v) => t.setIfInBounds p v) a.tmps, defers := [] } W)
    (hbody : ∀ (l : Nat) (pre : List α) (x : α) (W : World), w.heap.size ≤ l → I pre W → (∃ post, S (pre ++ x :: post)) → body.wpIn (F.inRound l) (n - 1 - 1) P (postV w.heap.size Kp I Ix (pre ++ [x]) W) (a₁ x) W)
    (hstop : ∀ (D : Nat) (pre : List α) (W : World), w.heap.size ≤ D → Ix pre W → W.heap[D]? = some (.deferred (some [])) → Code.ret.wpIn F n P Q { a with defers := { target := .collected D, args := #[] } :: a.defers } W)
    (hdone : ∀ (D : Nat) (xs : List α) (W : World), w.heap.size ≤ D → S xs → I xs W → W.heap[D]? = some (.deferred (some [])) → Q .normal { a with defers := { target := .collected D, args := #[] } :: a.defers } W) :
    (Code.rangeFunc g ps assign body).wpIn F n P Q a w := by
  refine wpIn_rangeFunc ?_
  intro fn hfn
  rw [hro]
  obtain ⟨rec, hrec⟩ : ∃ rec : LoopState → Option Code → Loop, rec = fun st pe => { state := st, pending := pe, fn, tmps := a.tmps, params := ps, assign, body, defers := w.heap.size } := ⟨_, rfl⟩
  obtain ⟨W1, hW1⟩ : ∃ W1, (w.alloc (.deferred (some []))).alloc (.loop (rec .ready none)) = W1 := ⟨_, rfl⟩
  have hL1 : W1.heap[w.heap.size + 1]? = some (.loop (rec .ready none)) := by
    rw [← hW1]; have := World.alloc_heap_new (w.alloc (.deferred (some []))) (.loop (rec .ready none)); rwa [World.size_alloc] at this
  have hK1 : W1.heap[w.heap.size]? = some (.deferred (some [])) := by
    rw [← hW1]; exact (Below.heap_alloc _ _ _ (by simp)).trans (World.alloc_heap_new w _)
  have hgr1 : w.grownBy W1 none := by
    rw [← hW1]
    exact ⟨rfl, rfl, rfl, by simp; omega, fun k hk _ => (Below.heap_alloc _ _ _ (by simp; omega)).trans (Below.heap_alloc _ _ _ hk)⟩
  have hI1 : I [] W1 := hI _ _ _ none h0 hgr1 (fun r e => by cases e)
  have hput : ∀ s (W : World) (o : Obj) (r : Loop), I s W → W.heap[w.heap.size + 1]? = some (.loop r) → I s (W.putObj (w.heap.size + 1) o) := fun s W o r hs hr => hI s W _ _ hs (grownBy_putObj' W _ o) (fun r e => by cases e; exact .inr ⟨by omega, _, hr, rfl⟩)
  have hputx : ∀ s (W : World) (o : Obj) (r : Loop), Ix s W → W.heap[w.heap.size + 1]? = some (.loop r) → Ix s (W.putObj (w.heap.size + 1) o) := fun s W o r hs hr => hIx s W _ _ hs (grownBy_putObj' W _ o) (fun r e => by cases e; exact .inr ⟨by omega, _, hr, rfl⟩)
  refine ⟨w.heap.size + 1, [{ target := .collected w.heap.size, args := #[] }], W1, { target := .fn (.func gf) lb, args := #[.func (.yield (w.heap.size + 1)) #[] #[]] }, W1, gf,
    #[.func (.yield (w.heap.size + 1)) #[] #[]] ++ lb, W1, ?_, ?_, ?_, ?_, fun _ => h1, ?_⟩
  · rw [← hW1, hrec]; exact run_enterLoop_outer _ _ _ _ _
  · simp only [resolve, hg]
    simp [go_sem]
  · intro f' hf'; simp [Target.leads] at hf'; subst hf'; exact hFg
  · simp [invoke, go_sem, eg]
  · refine (hseq (w.heap.size + 1)
      (fun pre W => I pre W ∧ W.heap[w.heap.size + 1]? = some (.loop (rec .ready none)) ∧ W.heap[w.heap.size]? = some (.deferred (some [])))
      (fun pre W => Ix pre W ∧ W.heap[w.heap.size + 1]? = some (.loop (rec .done (some .ret))) ∧ W.heap[w.heap.size]? = some (.deferred (some [])))
      W1 hgr1
      (fun s X Y hs hg' => ⟨hI s X Y _ hs.1 hg' (fun r e => by cases e; exact .inl rfl),
        (hg'.block _ (Array.getElem?_eq_some_iff.1 hs.2.1).1 (fun e => by cases e; omega)).trans hs.2.1, (hg'.block _ (Array.getElem?_eq_some_iff.1 hs.2.2).1 (fun e => by cases e; omega)).trans hs.2.2⟩)
      ?_ ⟨hI1, hL1, hK1⟩).mono ?_
    · rintro pre x W ⟨hi, hl, hk⟩ hpost
      have hlt : w.heap.size + 1 < W.heap.size := (Array.getElem?_eq_some_iff.1 hl).1
      have hy := run_yield (P := P) (args := encs x) hl (by rw [hrec]; exact hps x)
      rw [hrec] at hy
      refine ⟨fn, _, assign, body, hy, roundIn_of_wpIn hfn (hassign _ x W _ ?_)⟩
      clear hy
      refine ⟨_, run_beginRound hl (by rw [hrec]), ?_⟩
      have hl2 : (W.putObj (w.heap.size + 1) (.loop { rec .ready none with state := .busy })).heap[w.heap.size + 1]? = some (.loop { rec .ready none with state := .busy }) := World.putObj_heap_same hlt
      have hk2 : (W.putObj (w.heap.size + 1) (.loop { rec .ready none with state := .busy })).heap[w.heap.size]? = some (.deferred (some [])) := (World.putObj_heap_other (by omega)).trans hk
      refine wpIn_mono (hbody _ pre x _ (by omega) (hput _ _ _ _ hi hl) hpost) ?_
      rintro e a3 W3 hp
      cases e with
      | normal =>
        obtain ⟨hk3, hkp3, hi3⟩ := hp
        have hl3 := hk3.same _ _ (by omega) hl2 rfl
        have hr := run_endRound (P := P) none hl3
        refine ⟨_, _, hr, .inl ⟨rfl, ⟨hput _ _ _ _ hi3 hl3, ?_, ?_⟩, hKt (hKb _ _ _ (by omega)) (hKt hkp3 (hKb _ _ _ (by omega)))⟩⟩
        · rw [World.putObj_heap_same (Array.getElem?_eq_some_iff.1 hl3).1, hrec]; rfl
        · exact (World.putObj_heap_other (by omega)).trans (hk3.same _ _ (Nat.le_refl _) hk2 rfl)
      | ret =>
        obtain ⟨hk3, hi3⟩ := hp
        have hl3 := hk3.same _ _ (by omega) hl2 rfl
        have hr := run_endRound (P := P) (some .ret) hl3
        refine ⟨_, _, hr, .inr ⟨rfl, hputx _ _ _ _ hi3 hl3, ?_, ?_⟩⟩
        · rw [World.putObj_heap_same (Array.getElem?_eq_some_iff.1 hl3).1, hrec]; rfl
        · exact (World.putObj_heap_other (by omega)).trans (hk3.same _ _ (Nat.le_refl _) hk2 rfl)
      | exit id => exact hp.elim
      | goto t => exact hp.elim
      | panic ch => exact hp.elim
      | outgrown => exact hp.elim
    · rintro e W2 ⟨⟨v, rfl⟩, (⟨xs, hS, hi, hl, hk⟩ | ⟨pre, hi, hl, hk⟩)⟩
      · have hend := run_endLoop (P := P) hl (by rw [hrec]; simp)
        have hpend : (rec .ready none).pending = none := by rw [hrec]
        rw [hpend] at hend
        exact ⟨none, _, hend, hdone _ xs _ (Nat.le_refl _) hS (hput _ _ _ _ hi hl) ((World.putObj_heap_other (by omega)).trans hk)⟩
      · have hend := run_endLoop (P := P) hl (by rw [hrec]; simp)
        have hpend : (rec .done (some .ret)).pending = some .ret := by rw [hrec]
        rw [hpend] at hend
        refine ⟨some .ret, _, hend, ?_⟩
        show Code.wpIn F n P Code.ret Q _ _
        exact hstop _ pre _ (Nat.le_refl _) (hputx _ _ _ _ hi hl) ((World.putObj_heap_other (by omega)).trans hk)

end Go.Proofs.YtkcmkpljpmfiaaaDoor
