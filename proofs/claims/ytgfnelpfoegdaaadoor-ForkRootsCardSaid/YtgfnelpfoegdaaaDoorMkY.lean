/-
  merkle.Extends$1 (climb) whole: what it returns along a growth; and two equal arrays of bytes are equal. (Printed by wip/tools/gen_dgd.py.)
-/
import Derived.Test.YtgfnelpfoegdaaaDoorMkX
import Derived.Laws.StructEq
namespace Go.Proofs.YtgfnelpfoegdaaaDoor
open Go.RowKit

theorem take_snoc {A : Type} {l p : List A} {x : A} {i : Nat} (h : l.take i = p ++ [x]) (hi : i ≤ l.length) : i = p.length + 1 ∧ ∃ hl : p.length < l.length, l.take p.length = p ∧ l[p.length] = x := by
  have h1 : (l.take i).length = p.length + 1 := by rw [h]; simp
  rw [List.length_take] at h1
  have h2 : i = p.length + 1 := by omega
  subst h2
  have h3 : p.length < l.length := by omega
  refine ⟨rfl, h3, ?_, ?_⟩
  · have h4 := congrArg (List.take p.length) h
    rw [List.take_take, Nat.min_eq_left (by omega), List.take_left] at h4
    exact h4
  · have h4 := congrArg (fun z => z[p.length]?) h
    simp only [List.getElem?_take_of_lt (show p.length < p.length + 1 by omega), List.getElem?_eq_getElem h3] at h4
    simpa using h4

theorem mkClimbC (KS old : List Int) (po pt pc p cap : Nat) (a : Option Addr) (path : List (List Int)) : ∀ (N m : Nat) (hs : List (List Int)) (bw : Bool) (pre : List (List Int)) (i : Nat) (w : World), hs.length ≤ N → Cl w KS old po pt pc p a cap path i →
    path.take i = pre ++ growF KS m hs bw → i ≤ path.length → 1 ≤ m → m ≤ hs.length → hs.length ≤ 65536 → All32 hs → (bw = true → old = mrootF KS (hs.take m)) →
    Calls Tryd.prog 36 #[.int .i64 m, .int .i64 hs.length, .bool bw, .pointer (some ⟨po, 0, none⟩), .pointer (some ⟨pt, 0, none⟩), .pointer (some ⟨pc, 0, none⟩)] w fun e w' =>
      e = .returned (.tuple #[.agg ((mrootF KS (hs.take m)).map (Value.int .u8)).toArray, .agg ((mrootF KS hs).map (Value.int .u8)).toArray]) ∧ Tk w' p a cap path pre.length ∧ Kb w w' (p + 1) := by
  intro N
  induction N with
  | zero => intro m hs bw pre i w hN hC hp hi h1 hm; omega
  | succ N ih =>
    intro m hs bw pre i w hN hC hp hi h1 hm hl h32 hold
    by_cases he : m = hs.length
    · cases bw with
      | true =>
        have hg : growF KS m hs true = [] := by unfold growF; rw [he]; exact mkGrow_all
        rw [hg, List.append_nil] at hp
        have hpi : pre.length = i := by rw [← hp, List.length_take]; omega
        have ho := hold rfl
        have hr : mrootF KS hs = old := by rw [ho, he, List.take_length]
        have hor : mrootF KS (hs.take m) = old := ho.symm
        rw [hor, hr, hpi, he]
        refine (mkClimbOld old (by rw [ho]; exact mrootF_len (h32.take _)) hs.length po pt pc w hC.old).mono ?_
        rintro e w' ⟨rfl, hb⟩
        exact ⟨rfl, hC.tk.kb hb, Kb.of_below hb (by have := hC.tk.left.lt; omega)⟩
      | false =>
        have hg : growF KS m hs false = [mrootF KS hs] := by unfold growF mrootF; rw [he]; exact mkGrow_own
        rw [hg] at hp
        obtain ⟨rfl, hlt, hpt, hx⟩ := take_snoc hp hi
        have hr : mrootF KS (hs.take m) = mrootF KS hs := by rw [he, List.take_length]
        rw [hr, ← hx, he]
        exact mkClimbTake hs.length po pt pc p pre.length cap a path w hC.tk hlt hC.take
    · have h2 : 2 ≤ hs.length := by omega
      have hk1 := sp2_lt h2
      have hk0 := sp2_pos hs.length
      by_cases hmk : m ≤ sp2 hs.length
      · have hg : growF KS m hs bw = growF KS m (hs.take (sp2 hs.length)) bw ++ [mrootF KS (hs.drop (sp2 hs.length))] := mkGrow_left (by omega) h2 hmk
        rw [hg, ← List.append_assoc] at hp
        obtain ⟨hi1, hlt, hpt, hx⟩ := take_snoc hp hi
        obtain ⟨I, hI⟩ : ∃ I, (pre ++ growF KS m (hs.take (sp2 hs.length)) bw).length = I := ⟨_, rfl⟩
        simp only [hI] at hi1 hlt hpt hx
        subst hi1
        have hA : (mrootF KS ((hs.take (sp2 hs.length)).take m)).length = 32 := mrootF_len ((h32.take _).take _)
        have hB : (mrootF KS (hs.take (sp2 hs.length))).length = 32 := mrootF_len (h32.take _)
        have hlk : (hs.take (sp2 hs.length)).length = sp2 hs.length := by rw [List.length_take]; omega
        have hleft : mrootF KS ((hs.take (sp2 hs.length)).take m) = mrootF KS (hs.take m) := mkRoot_left hmk
        have h := mkClimbL KS old _ _ m hs.length (sp2 hs.length) po pt pc p I pre.length cap bw a path w hC hlt hA hB h2 hl (by omega) rfl hmk fun w3 hC3 => by
          have h3 := ih m (hs.take (sp2 hs.length)) bw pre I w3 (by omega) hC3 hpt (by omega) h1 (by omega) (by omega) (h32.take _) (fun hb => by rw [hold hb, hleft])
          rw [hlk] at h3
          exact h3
        rw [hx, hleft] at h
        have hroot : mrootF KS hs = nodeF KS (mrootF KS (hs.take (sp2 hs.length))) (mrootF KS (hs.drop (sp2 hs.length))) := mkRoot_big h2
        rw [hroot]
        exact h
      · have hg : growF KS m hs bw = growF KS (m - sp2 hs.length) (hs.drop (sp2 hs.length)) false ++ [mrootF KS (hs.take (sp2 hs.length))] := mkGrow_right (by omega) h2 hmk
        rw [hg, ← List.append_assoc] at hp
        obtain ⟨hi1, hlt, hpt, hx⟩ := take_snoc hp hi
        obtain ⟨I, hI⟩ : ∃ I, (pre ++ growF KS (m - sp2 hs.length) (hs.drop (sp2 hs.length)) false).length = I := ⟨_, rfl⟩
        simp only [hI] at hi1 hlt hpt hx
        subst hi1
        have hA : (mrootF KS ((hs.drop (sp2 hs.length)).take (m - sp2 hs.length))).length = 32 := mrootF_len ((h32.drop _).take _)
        have hB : (mrootF KS (hs.drop (sp2 hs.length))).length = 32 := mrootF_len (h32.drop _)
        have hlk : (hs.drop (sp2 hs.length)).length = hs.length - sp2 hs.length := by rw [List.length_drop]
        have h := mkClimbR KS old _ _ m hs.length (sp2 hs.length) po pt pc p I pre.length cap bw a path w hC hlt hA hB h2 hl (by omega) rfl hmk fun w3 hC3 => by
          have h3 := ih (m - sp2 hs.length) (hs.drop (sp2 hs.length)) false pre I w3 (by omega) hC3 hpt (by omega) (by omega) (by omega) (by omega) (h32.drop _) (fun hb => by cases hb)
          rw [hlk, show ((m - sp2 hs.length : Nat) : Int) = (m : Int) - (sp2 hs.length : Int) by omega, show ((hs.length - sp2 hs.length : Nat) : Int) = (hs.length : Int) - (sp2 hs.length : Int) by omega] at h3
          exact h3
        rw [hx] at h
        have hroot : mrootF KS hs = nodeF KS (mrootF KS (hs.take (sp2 hs.length))) (mrootF KS (hs.drop (sp2 hs.length))) := mkRoot_big h2
        have hright : nodeF KS (mrootF KS (hs.take (sp2 hs.length))) (mrootF KS ((hs.drop (sp2 hs.length)).take (m - sp2 hs.length))) = mrootF KS (hs.take m) := mkRoot_right hm h2 hmk
        rw [hroot, ← hright]
        exact h

theorem equalIn_same {P : Program} (w : World) (d : Nat) (t e : TypeId) (n : Nat) (ht : P.underlying t = some (.array n e)) (he : P.underlying e = some (.int .u8)) (hsz : ∀ w, (sizeOf e).run P w = .ok 1 w)
    (xs : List Int) (hx : xs.length = n) :
    (Op.equalIn (d + 2) t (.agg (xs.map (Value.int .u8)).toArray) (.agg (xs.map (Value.int .u8)).toArray)).run P w = .ok true w := by
  rw [Op.equalIn]
  simp only [Sem.run_bind, run_underlying ht, Result.andThen_ok, hsz, Std.Legacy.Range.forIn_eq_forIn_range', Std.Legacy.Range.size, Nat.sub_zero, Nat.add_sub_cancel, Nat.div_one]
  have hl : ∀ i ∈ List.range' 0 n 1, i < n := fun i hi => by simpa using (List.mem_range'_1.1 hi).2
  generalize List.range' 0 n 1 = l at hl ⊢
  induction l with
  | nil => simp
  | cons i l ih =>
    have hi : i < n := hl i (by simp)
    have px : (part e (xs.map (Value.int .u8)).toArray (i * 1)).run P w = .ok (Value.int .u8 (xs.getD i 0)) w := by
      simp [part, isAgg, run_underlying he, List.getD, List.getElem?_eq_getElem (show i < xs.length by omega)]
    have pe : (Op.equalIn (d + 1) e (Value.int .u8 (xs.getD i 0)) (Value.int .u8 (xs.getD i 0))).run P w = .ok true w := by
      rw [run_equalIn_int w d e .u8 .u8 _ _ he, beq_self_eq_true]
    simp only [List.forIn_cons, Sem.run_bind, px, pe, Result.andThen_ok]
    simp only [Bool.not_true, Bool.false_eq_true, if_false, Sem.run_pure, Result.andThen_ok]
    exact ih fun j hj => hl j (by simp [hj])

theorem size_u8 (w : World) : (sizeOf 5).run Tryd.prog w = .ok 1 w := by kernel_rfl
theorem eql_same (xs : List Int) (hx : xs.length = 32) (w : World) : (binOp .eql 33 (.agg (xs.map (Value.int .u8)).toArray) (.agg (xs.map (Value.int .u8)).toArray)).run Tryd.prog w = .ok (.bool true) w := by
  rw [run_eql_struct, equalIn_same w 9998 33 5 32 Tryd.underlying33 Tryd.underlying5 size_u8 xs hx]
  rfl
theorem neq_same (xs : List Int) (hx : xs.length = 32) (w : World) : (binOp .neq 33 (.agg (xs.map (Value.int .u8)).toArray) (.agg (xs.map (Value.int .u8)).toArray)).run Tryd.prog w = .ok (.bool false) w := by
  rw [run_neq_struct, equalIn_same w 9998 33 5 32 Tryd.underlying33 Tryd.underlying5 size_u8 xs hx]
  rfl
theorem eqGuard33 : Tryd.prog.eqGuardType Tryd.prog.depth 33 = false := by kernel_rfl

end Go.Proofs.YtgfnelpfoegdaaaDoor
