/-
  Facts and versions as rows of cells; the small contracts of package facts: in, word, valid.
-/
import Derived.Test.YtgfnelpfoegdaaaEnR
import Derived.Test.YtgfnelpfoegdaaaN03
import Derived.Deep.MidRow
import Derived.Laws.Rows
import Derived.Laws.StructEq
namespace Go.Proofs.Ytgfnelpfoegdaaa
open Go.RowKit

structure Fc where
  ent : Int
  kind : ByteArray
  day : Int
  by_ : Int
  to_ : Int
  amt : Int
instance : Inhabited Fc := ⟨⟨0, ByteArray.empty, 0, 0, 0, 0⟩⟩
structure Vs where
  op : Int
  f : Fc
instance : Inhabited Vs := ⟨⟨0, default⟩⟩

def fcE (x : Fc) : List Value := [.int .i64 x.ent, .string x.kind, .int .i64 x.day, .int .i64 x.by_, .int .i64 x.to_, .int .i64 x.amt]
def vsE (x : Vs) : List Value := [.int .i64 x.op, .bool false, .int .i64 x.f.ent, .string x.f.kind, .int .i64 x.f.day, .int .i64 x.f.by_, .int .i64 x.f.to_, .int .i64 x.f.amt]
theorem fcE_len (x : Fc) : (fcE x).length = 6 := rfl
theorem vsE_len (x : Vs) : (vsE x).length = 8 := rfl
theorem fcE_one (x : Fc) : ∀ v ∈ fcE x, v.oneCell' = true := by
  intro v hv
  simp [fcE] at hv
  rcases hv with rfl | rfl | rfl | rfl | rfl | rfl <;> rfl
theorem vsE_one (x : Vs) : ∀ v ∈ vsE x, v.oneCell' = true := by
  intro v hv
  simp [vsE] at hv
  rcases hv with rfl | rfl | rfl | rfl | rfl | rfl | rfl | rfl <;> rfl
theorem fcE_inj {x y : Fc} (h : fcE x = fcE y) : x = y := by
  cases x; cases y
  simp [fcE] at h
  obtain ⟨rfl, rfl, rfl, rfl, rfl, rfl⟩ := h
  rfl
theorem vsE_inj {x y : Vs} (h : vsE x = vsE y) : x = y := by
  obtain ⟨o, f⟩ := x; obtain ⟨o', f'⟩ := y
  cases f; cases f'
  simp [vsE] at h
  obtain ⟨rfl, rfl, rfl, rfl, rfl, rfl, rfl⟩ := h
  rfl

def IsFcs (w : World) (v : Value) (l : List Fc) : Prop := Rd w v 6 l.length (enC fcE l)
def IsVss (w : World) (v : Value) (l : List Vs) : Prop := Rd w v 8 l.length (enC vsE l)
theorem IsFcs.below {w w' : World} {v : Value} {l : List Fc} (h : IsFcs w v l) (hb : Below w.heap.size w w') : IsFcs w' v l := Rd.below h hb
theorem IsVss.below {w w' : World} {v : Value} {l : List Vs} (h : IsVss w v l) (hb : Below w.heap.size w w') : IsVss w' v l := Rd.below h hb
theorem IsFcs.open {w : World} {v : Value} {l : List Fc} (h : IsFcs w v l) :
    ∃ a cap, v = .slice a l.length cap ∧ l.length ≤ maxLen ∧ l.length ≤ cap ∧ ∀ i (hi : i < l.length), ∃ b off, a = some ⟨b, off, none⟩ ∧ b < w.heap.size ∧ w.rangeAt b (off + i * 6) (fcE l[i]) := by
  obtain ⟨h1, h2, a, cap, rfl, hn, hc⟩ := h
  refine ⟨a, cap, rfl, h2, hn, fun i hi => ?_⟩
  obtain ⟨b, off, rfl, c0⟩ := hc (i * 6 + 0) (.int .i64 l[i].ent) (by rw [enC_get fcE_len l i 0 hi (by omega)]; rfl)
  refine ⟨b, off, rfl, World.block_lt_of_cell? _ _ c0, fun j v hv => ?_⟩
  have hj : j < 6 := by have := (List.getElem?_eq_some_iff.1 hv).1; rwa [fcE_len] at this
  obtain ⟨_, _, e, c1⟩ := hc (i * 6 + j) v (by rw [enC_get fcE_len l i j hi hj]; exact hv)
  cases e
  rw [Nat.add_assoc]
  exact c1
theorem IsVss.open {w : World} {v : Value} {l : List Vs} (h : IsVss w v l) :
    ∃ a cap, v = .slice a l.length cap ∧ l.length ≤ maxLen ∧ l.length ≤ cap ∧ ∀ i (hi : i < l.length), ∃ b off, a = some ⟨b, off, none⟩ ∧ b < w.heap.size ∧ w.rangeAt b (off + i * 8) (vsE l[i]) := by
  obtain ⟨h1, h2, a, cap, rfl, hn, hc⟩ := h
  refine ⟨a, cap, rfl, h2, hn, fun i hi => ?_⟩
  obtain ⟨b, off, rfl, c0⟩ := hc (i * 8 + 0) (.int .i64 l[i].op) (by rw [enC_get vsE_len l i 0 hi (by omega)]; rfl)
  refine ⟨b, off, rfl, World.block_lt_of_cell? _ _ c0, fun j v hv => ?_⟩
  have hj : j < 8 := by have := (List.getElem?_eq_some_iff.1 hv).1; rwa [vsE_len] at this
  obtain ⟨_, _, e, c1⟩ := hc (i * 8 + j) v (by rw [enC_get vsE_len l i j hi hj]; exact hv)
  cases e
  rw [Nat.add_assoc]
  exact c1

theorem alloc_new (w : World) (o : Obj) : (w.alloc o).heap[w.heap.size]? = some o := by
  show (w.heap.push o)[w.heap.size]? = some o
  simp
theorem below_setRow {B : Nat} {w w' : World} (h : Below B w w') (g : Nat) (cs : Array Value) (hg : B ≤ g) : Below B w (w'.setRow g cs) :=
  ⟨h.os, h.tape, h.output, by show _ ≤ (w'.heap.modify g _).size; simpa using h.size, fun k hk => by
    show (w'.heap.modify g _)[k]? = _
    rw [Array.getElem?_modify, if_neg (by omega)]
    exact h.block k hk⟩
theorem cells_all (cs : Array Value) (h : ∀ v ∈ cs.toList, v.oneCell' = true) : cs.all (·.oneCell') = true := by
  rw [Array.all_eq_true_iff_forall_mem]
  exact fun v hv => h v (by simpa using hv)
theorem infoFc : (Try.prog.info? 72).map (·.size) = some 6 := by kernel_rfl
theorem infoVs : (Try.prog.info? 75).map (·.size) = some 8 := by kernel_rfl

/-- A word of the rule language, as the generators make them: small letters alone. -/
def WordB (s : ByteArray) : Prop := 1 ≤ s.size ∧ s.size ≤ 12 ∧ ∀ i (h : i < s.size), 97 ≤ (s[i]).toNat ∧ (s[i]).toNat ≤ 122
structure FcOk (x : Fc) : Prop where
  e0 : 0 ≤ x.ent
  e1 : x.ent < 65536
  k : WordB x.kind
  d0 : 0 ≤ x.day
  d1 : x.day < 3652059
  b0 : 0 ≤ x.by_
  b1 : x.by_ < 64
  t0 : 0 ≤ x.to_
  t1 : x.to_ < 64
  a0 : -2147483647 ≤ x.amt
  a1 : x.amt ≤ 2147483647

theorem fin_any (n most : Int) (w : World) (h0 : 0 ≤ n) (h1 : n < most) : Calls Try.prog 73 #[.int .i64 n, .int .i64 most] w fun e w' => e = .returned (.bool true) ∧ w' = w := by
  have h2 : n ≥ 0 := h0
  go_enter Try.func73, Try.ntmps73
  go_wp2_with fail
  go_ret
  exact ⟨rfl, rfl⟩

end Go.Proofs.Ytgfnelpfoegdaaa
