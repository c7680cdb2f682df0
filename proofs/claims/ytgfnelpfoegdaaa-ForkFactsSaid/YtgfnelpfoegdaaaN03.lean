/-
  Contracts of the small functions of rollbookref03: Around, Pick, SameInts.
-/
import Derived.Test.YtgfnelpfoegdaaaMem
import Derived.Test.YtgfnelpfoegdaaaProg
import Derived.Deep.QuietTactic
import Derived.BigQuiet
namespace Go.Proofs.Ytgfnelpfoegdaaa
open Go.RowKit

def around (n most : Int) : Int := (if n < 0 then -(n + 1) else n) % most

theorem around_neg (n most : Int) (h : n < 0) : -((n + 1).tmod most) = around n most := by
  unfold around; rw [if_pos h, ← Int.neg_tmod, Int.tmod_eq_emod_of_nonneg (by omega)]
theorem around_pos (n most : Int) (h : ¬ n < 0) : n % most = around n most := by
  unfold around; rw [if_neg h]
theorem around_lo (n most : Int) (h : 1 ≤ most) : 0 ≤ around n most := Int.emod_nonneg _ (by omega)
theorem around_hi (n most : Int) (h : 1 ≤ most) : around n most < most := Int.emod_lt_of_pos _ (by omega)

theorem ret_int {k : IntKind} {a b : Int} (h : a = b) : Ending.returned (.int k a) = .returned (.int k b) := by rw [h]
theorem ret_bool {a b : Bool} (h : a = b) : Ending.returned (.bool a) = .returned (.bool b) := by rw [h]

set_option maxHeartbeats 400000 in
theorem around_any (n most : Int) (hn : I64 n) (h1 : 1 ≤ most) (w : World) :
    Calls Try.prog 25 #[.int .i64 n, .int .i64 most] w fun e w' => e = .returned (.int .i64 (around n most)) ∧ w = w' := by
  unfold I64 at hn
  obtain ⟨hn1, hn2⟩ := hn
  have hz : (most == 0) = false := by simp; omega
  by_cases h0 : n < 0
  · go_enter Try.func25, Try.ntmps25
    go_wp2
    go_ret
    exact ⟨ret_int (around_neg _ _ h0), rfl⟩
  · go_enter Try.func25, Try.ntmps25
    go_wp2
    go_ret
    exact ⟨ret_int (around_pos _ _ (by omega)), rfl⟩

/-- Pick: element i modulo most, or 0. -/
def pick (l : List Int) (i : Nat) (most : Int) : Int := match l[i]? with | some x => around x most | none => 0

set_option maxHeartbeats 400000 in
theorem pick_any (l : List Int) (v : Value) (i : Nat) (most : Int) (w : World) (hl : IsInts w v l) (hw : ∀ x ∈ l, I64 x) (hi : i ≤ 9223372036854775807) (h1 : 1 ≤ most) :
    Calls Try.prog 43 #[v, .int .i64 i, .int .i64 most] w fun e w' => e = .returned (.int .i64 (pick l i most)) ∧ w = w' := by
  obtain ⟨a, cap, rfl, hlen, -, hc⟩ := hl.open
  unfold maxLen at hlen
  by_cases h : i < l.length
  · obtain ⟨b, off, rfl, hcell⟩ := hc i h
    have hx := hw l[i] (List.getElem_mem h)
    have hp : pick l i most = around l[i] most := by unfold pick; rw [List.getElem?_eq_getElem h]
    rw [hp]
    clear hp hc hw
    generalize l[i] = x at *
    go_enter Try.func43, Try.ntmps43
    go_wp2_with (go_at_call 25; refine (around_any _ _ hx h1 _).mono ?_; rintro e w' ⟨rfl, rfl⟩)
    go_ret
    exact ⟨rfl, rfl⟩
  · have hp : pick l i most = 0 := by unfold pick; rw [List.getElem?_eq_none (by omega)]
    rw [hp]
    clear hp hc hw
    go_enter Try.func43, Try.ntmps43
    go_wp2
    go_ret
    exact ⟨rfl, rfl⟩

def sameInts (a b : List Int) : Bool := decide (a = b)

set_option maxHeartbeats 400000 in
theorem sameInts_any (xs ys : List Int) (v u : Value) (w : World) (hx : IsInts w v xs) (hy : IsInts w u ys) :
    Calls Try.prog 28 #[v, u] w fun e w' => e = .returned (.bool (decide (xs = ys))) ∧ ∃ n, w' = w.drewN n := by
  obtain ⟨a, cap, rfl, hlen, -, hc⟩ := hx.open
  obtain ⟨a2, cap2, rfl, hlen2, -, hc2⟩ := hy.open
  unfold maxLen at hlen hlen2
  by_cases h : xs.length = ys.length
  · have hb : ((xs.length : Int) != ys.length) = false := by simp [h]
    have H := Lib.hid h; clear h
    have HC := Lib.hid hc; clear hc
    have HC2 := Lib.hid hc2; clear hc2
    go_enter Try.func28, Try.ntmps28
    go_wp2
    clear hb
    go_loopw [5] (fun i wr => ∃ k n : Nat, k ≤ xs.length ∧ i = .int .i64 k ∧ wr = w.drewN n ∧ xs.take k = ys.take k) (fun i _ => xs.length - (intOf i).toNat)
    case atStart => exact ⟨0, 0, Nat.zero_le _, rfl, rfl, rfl⟩
    case round =>
      obtain ⟨k, n, hk, rfl, rfl, ht⟩ := hrel
      have HT := Lib.hid ht; clear ht
      by_cases hlt : k < xs.length
      · obtain ⟨b, off, rfl, h1⟩ := HC.out k hlt
        obtain ⟨b2, off2, rfl, h2⟩ := HC2.out k (by have := H.out; omega)
        have h2lt : k < ys.length := by have := H.out; omega
        by_cases he : xs[k] = ys[k]
        · have hne : (xs[k] != ys[k]) = false := by simp [he]
          have HE := Lib.hid he; clear he
          go_wp2
          go_quiet (fail)
          go_wp2
          go_roundw
          case rel =>
            refine ⟨k + 1, _, by omega, by go_num, rfl, ?_⟩
            rw [List.take_succ_eq_append_getElem hlt, List.take_succ_eq_append_getElem h2lt, HT.out, HE.out]
          case measure => simp [intOf]; omega
        · have hne : (xs[k] != ys[k]) = true := by simp [he]
          have HE := Lib.hid he; clear he
          go_wp2
          go_quiet (fail)
          go_wp2
          go_ret
          exact ⟨ret_bool (by symm; apply decide_eq_false; intro e; exact HE.out (by simp [e])), _, World.drewN_drewN _ _ _⟩
      · go_wp2
        go_ret
        have := H.out
        exact ⟨ret_bool (by symm; apply decide_eq_true; have h1 := HT.out; rwa [List.take_of_length_le (by omega), List.take_of_length_le (by omega)] at h1), _, rfl⟩
  · have hb : ((xs.length : Int) != ys.length) = true := by rw [bne_iff_ne]; omega
    go_enter Try.func28, Try.ntmps28
    go_wp2
    go_ret
    exact ⟨ret_bool (by symm; apply decide_eq_false; intro e; exact h (by rw [e])), 0, rfl⟩

theorem infoInt : (Try.prog.info? 3).map (fun i => (i.zero, i.size, i.bytes)) = some (some (.int .i64 0), 1, 8) := by kernel_rfl

/-- Ints(l, len(l)): a copy. -/
theorem ints_all (xs : List Int) (v : Value) (w : World) (hx : IsInts w v xs) (hb : xs.length ≤ 1000000) :
    Calls Try.prog 62 #[v, .int .i64 xs.length] w fun e w' => ∃ v', e = .returned v' ∧ w'.ownsRow w.heap.size 3 1 v' xs.length (ints xs) ∧ Below w.heap.size w w' := by
  obtain ⟨a, cap, rfl, hlen, hcap, hc⟩ := hx.open
  unfold maxLen at hlen
  have HX := Lib.hid hx; clear hx hc
  go_enter Try.func62, Try.ntmps62
  go_wp2_with (at_builtin; refine wpList_append_rd rfl _ _ 23 rfl w.heap.size 3 _ 1 8 Try.underlying23 infoInt rfl (by decide) _ 0 [] rfl (World.ownsRow_nil _ _ _ _) _ xs.length (ints xs) rfl ?src (ints_one _) ?b1 ?b2 (Nat.le_refl _) ?_)
  case src => exact HX.out
  case b1 => unfold maxLen; omega
  case b2 => omega
  intro v' w1 hown hg
  have hbel : Below w.heap.size w w1 := below_append (Below.refl _ _) (World.ownsRow_nil w w.heap.size 3 1) hg (Nat.le_refl _)
  have HO := Lib.hid (show w1.ownsRow w.heap.size 3 1 v' xs.length (ints xs) from by simpa using hown); clear hown hg
  have HB := Lib.hid hbel; clear hbel
  go_wp2
  go_ret
  exact ⟨_, rfl, HO.out, HB.out⟩

end Go.Proofs.Ytgfnelpfoegdaaa
