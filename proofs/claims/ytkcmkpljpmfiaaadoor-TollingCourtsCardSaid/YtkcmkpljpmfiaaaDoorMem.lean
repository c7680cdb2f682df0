/-
  What the walks say of memory: slices that read as lists; laws for append and copy over such slices. No program in sight.
-/
import Derived.WalkKit
import Derived.WalkSpells
import Derived.WalkLawsBesides
import Derived.Lib.Hide
import Derived.Laws.CopyOwn
import Derived.Laws.AppendOwnNone
import Derived.WalkSmall
import Derived.OwnWalkIn
namespace Go.Proofs.YtkcmkpljpmfiaaaDoor
open Go.RowKit

/-- n fits Go's int. -/
def I64 (n : Int) : Prop := -9223372036854775808 ≤ n ∧ n ≤ 9223372036854775807

/-- v is a slice of n elements of s cells each; its cells read as cs. -/
def Rd (w : World) (v : Value) (s n : Nat) (cs : List Value) : Prop :=
  cs.length = n * s ∧ n ≤ maxLen ∧ ∃ a cap, v = .slice a n cap ∧ n ≤ cap ∧ ∀ j u, cs[j]? = some u → ∃ b off, a = some ⟨b, off, none⟩ ∧ w.cell? ⟨b, off + j, none⟩ = some u

theorem Rd.same {w w' : World} {v : Value} {s n : Nat} {cs : List Value} (h : Rd w v s n cs) (hb : ∀ k, k < w.heap.size → v.ownBlock = some k → w'.heap[k]? = w.heap[k]?) : Rd w' v s n cs := by
  obtain ⟨h1, h2, a, cap, rfl, hn, hc⟩ := h
  refine ⟨h1, h2, a, cap, rfl, hn, fun j u hu => ?_⟩
  obtain ⟨b, off, rfl, hcell⟩ := hc j u hu
  exact ⟨b, off, rfl, by rw [World.cell?_of_block (w := w) (hb b (World.block_lt_of_cell? _ _ hcell) (by simp [Value.ownBlock]))]; exact hcell⟩

theorem Rd.below {w w' : World} {v : Value} {s n : Nat} {cs : List Value} (h : Rd w v s n cs) (hb : Below w.heap.size w w') : Rd w' v s n cs :=
  h.same fun k hk _ => hb.block k hk

/-- What lies below B reads as it did. -/
theorem Rd.belowB {w w' : World} {B : Nat} {v : Value} {s n : Nat} {cs : List Value} (h : Rd w v s n cs) (hb : Below B w w') (hv : ∀ k, v.ownBlock = some k → k < B) : Rd w' v s n cs :=
  h.same fun k _ hk => hb.block k (hv k hk)

theorem Rd.of_owns {w : World} {B e s : Nat} {v : Value} {n : Nat} {xs : List Value} (h : w.ownsRow B e s v n xs) : Rd w v s n xs := by
  refine ⟨h.1, ?_, ?_⟩
  · rcases h.2 with ⟨_, rfl⟩ | ⟨g, cap, cur, _, _, _, h1, h2, _⟩
    · exact Nat.zero_le _
    · omega
  · rcases h.2 with ⟨rfl, rfl⟩ | ⟨g, cap, cur, rfl, hb, hg, h1, h2, h3, h4⟩
    · refine ⟨none, 0, rfl, Nat.le_refl _, fun j u hu => ?_⟩
      have := h.1
      simp at this
      subst this
      simp at hu
    · refine ⟨_, cap, rfl, h1, fun j u hu => ⟨g, 0, rfl, ?_⟩⟩
      have := h.cells (g := g) rfl j u hu
      rw [show (⟨g, 0, none⟩ : Addr).add j = ⟨g, 0 + j, none⟩ from by unfold Addr.add; split <;> simp_all] at this
      exact this

theorem Rd.nil (w : World) (a : Option Addr) (s cap : Nat) : Rd w (.slice a 0 cap) s 0 [] := ⟨by simp, Nat.zero_le _, a, cap, rfl, Nat.zero_le _, fun j u h => by simp at h⟩

/-- The one source of the laws below: nothing, or all cells behind one address. -/
theorem Rd.source {w : World} {v : Value} {s n : Nat} {cs : List Value} (h : Rd w v s n cs) :
    ∃ a cap, v = .slice a n cap ∧ n ≤ cap ∧ ((a = none ∧ cs = []) ∨ ∃ ad, a = some ad ∧ ∀ j u, cs[j]? = some u → w.cell? (ad.add j) = some u) := by
  obtain ⟨h1, h2, a, cap, rfl, hn, hc⟩ := h
  refine ⟨a, cap, rfl, hn, ?_⟩
  cases a with
  | none =>
    refine .inl ⟨rfl, ?_⟩
    cases cs with
    | nil => rfl
    | cons c cs => obtain ⟨b, off, hh, _⟩ := hc 0 c rfl; cases hh
  | some ad =>
    refine .inr ⟨ad, rfl, fun j u hu => ?_⟩
    obtain ⟨b, off, hh, hcell⟩ := hc j u hu
    cases hh
    rw [show (⟨b, off, none⟩ : Addr).add j = ⟨b, off + j, none⟩ from by unfold Addr.add; split <;> simp_all]
    exact hcell

/-! ### rows of equal length, laid end to end -/
theorem flat_len (s : Nat) : ∀ rows : List (List Value), (∀ r ∈ rows, r.length = s) → rows.flatten.length = rows.length * s
  | [], _ => by simp
  | r :: rows, h => by
    rw [List.flatten_cons, List.length_append, h r (by simp), flat_len s rows (fun x hx => h x (by simp [hx])), List.length_cons, Nat.add_mul]
    omega

theorem flat_get (s : Nat) : ∀ (rows : List (List Value)) (i k : Nat) (h : i < rows.length), (∀ r ∈ rows, r.length = s) → k < s → rows.flatten[i * s + k]? = rows[i][k]?
  | [], i, k, h, _, _ => absurd h (Nat.not_lt_zero _)
  | r :: rows, 0, k, _, hr, hk => by
    rw [List.flatten_cons, List.getElem?_append_left (by rw [hr r (by simp)]; omega)]
    simp
  | r :: rows, i + 1, k, h, hr, hk => by
    have hrs := hr r (by simp)
    rw [List.flatten_cons, List.getElem?_append_right (by rw [hrs, Nat.add_mul]; omega)]
    rw [show (i + 1) * s + k - r.length = i * s + k from by rw [hrs, Nat.add_mul]; omega]
    simpa using flat_get s rows i k (by simpa using h) (fun x hx => hr x (by simp [hx])) hk

theorem flat_set (s : Nat) (v : Value) : ∀ (rows : List (List Value)) (i k : Nat) (h : i < rows.length), (∀ r ∈ rows, r.length = s) → k < s → rows.flatten.set (i * s + k) v = (rows.set i (rows[i].set k v)).flatten
  | [], i, k, h, _, _ => absurd h (Nat.not_lt_zero _)
  | r :: rows, 0, k, _, hr, hk => by
    have hrs := hr r (by simp)
    simp [List.flatten_cons, hrs, hk]
  | r :: rows, i + 1, k, h, hr, hk => by
    have hrs := hr r (by simp)
    have ih := flat_set s v rows i k (by simpa using h) (fun x hx => hr x (by simp [hx])) hk
    have e : ¬ (i + 1) * s + k < s := by rw [Nat.add_mul]; omega
    simp only [List.flatten_cons, List.set_append, hrs, e, if_false, List.set_cons_succ, List.getElem_cons_succ]
    rw [show (i + 1) * s + k - s = i * s + k from by rw [Nat.add_mul]; omega, ih]

/-! ### append and copy -/
section
variable {P : Program} {w : World} {ops : Array Oper} {rest : List Oper} {o : Oper} {a : Act} {Q : Exit → Act → World → Prop}

/-- 'append(s, x...)': s is the call's own (or nil), x any slice that reads. -/
theorem run_append_rd (t ty : TypeId)
    (base : Nat) (e : TypeId) (z : Value) (size bytes : Nat) (ht : P.underlying t = some (.slice e)) (hinfo : (P.info? e).map (fun i => (i.zero, i.size, i.bytes)) = some (some z, size, bytes))
    (hzs : z.cells.size = size) (hsz : 0 < size) (v : Value) (n : Nat) (xs : List Value) (hown : w.ownsRow base e size v n xs)
    (xv : Value) (m : Nat) (news : List Value) (hsrc : Rd w xv size m news) (h1 : ∀ u ∈ news, u.oneCell' = true)
    (h63 : n + m ≤ maxLen) (hbytes : (n + m) * bytes ≤ 140737488355328) (hbase : base ≤ w.heap.size) :
    ∃ v' w', (Builtin.append_ #[t, t] ty #[v, xv]).run P w = .ok v' w' ∧ w'.ownsRow base e size v' (n + m) (xs ++ news) ∧ w.grownBy w' v.ownBlock := by
  obtain ⟨i, hi, hz0, hz1, hz2⟩ := info_parts hinfo
  have hl := hsrc.1
  obtain ⟨ax, c, rfl, _, hcase⟩ := hsrc.source
  rcases hcase with ⟨rfl, rfl⟩ | ⟨ad, rfl, hcells⟩
  · have hm : m = 0 := by
      rcases Nat.eq_zero_or_pos m with h0 | h0
      · exact h0
      · have : 0 < m * size := Nat.mul_pos h0 hsz
        simp at hl
        omega
    subst hm
    refine ⟨v, w, ?_, by simpa using hown, World.grownBy.refl _ _⟩
    rcases hown.2 with ⟨rfl, rfl⟩ | ⟨g, cap, cur, rfl, _, _, hnc, _⟩
    · simp [Builtin.append_, run_underlying ht, sizeOf, typeInfo, hi, Builtin.lenOf, Builtin.firstCells]
    · simp [Builtin.append_, run_underlying ht, sizeOf, typeInfo, hi, Builtin.lenOf, Builtin.firstCells, hnc, storeCells]
  · obtain ⟨v', w', hrun, r1, r2, _⟩ := run_append_own (P := P) w base t ty e i z size bytes ht hi hz0 hz1 hz2 hzs hsz v n xs hown ad m c news hl hcells h1 h63 hbytes hbase
    exact ⟨v', w', hrun, r1, r2⟩

theorem wp_append_rd {K : Act → World → Prop} (s x : Operand) (t : TypeId)
    (ho : o.op = .call { callee := .builtin .append, args := #[s, x], argTypes := #[t, t] })
    (base : Nat) (e : TypeId) (z : Value) (size bytes : Nat) (ht : P.underlying t = some (.slice e)) (hinfo : (P.info? e).map (fun i => (i.zero, i.size, i.bytes)) = some (some z, size, bytes))
    (hzs : z.cells.size = size) (hsz : 0 < size) (v : Value) (n : Nat) (xs : List Value) (hs : a.eval s = v) (hown : w.ownsRow base e size v n xs)
    (xv : Value) (m : Nat) (news : List Value) (hx : a.eval x = xv) (hsrc : Rd w xv size m news) (h1 : ∀ u ∈ news, u.oneCell' = true)
    (h63 : n + m ≤ maxLen) (hbytes : (n + m) * bytes ≤ 140737488355328) (hbase : base ≤ w.heap.size)
    (h : ∀ v' w', w'.ownsRow base e size v' (n + m) (xs ++ news) → w.grownBy w' v.ownBlock → K (a.put o.dst v') w') :
    o.wp P a w K Q := by
  obtain ⟨v', w', hrun, r1, r2⟩ := run_append_rd (P := P) t o.type base e z size bytes ht hinfo hzs hsz v n xs hown xv m news hsrc h1 h63 hbytes hbase
  unfold Oper.wp
  simp [execOp, ho, resolve, invoke, builtin, hs, hx, hrun, Result.andThen]
  exact h v' w' r1 r2

/-- The same inside a fence. -/
theorem wpListIn_append_rd {F : Fence} {d : Nat} (hgd : o.guard = none) (s x : Operand) (t : TypeId)
    (ho : o.op = .call { callee := .builtin .append, args := #[s, x], argTypes := #[t, t] })
    (base : Nat) (e : TypeId) (z : Value) (size bytes : Nat) (ht : P.underlying t = some (.slice e)) (hinfo : (P.info? e).map (fun i => (i.zero, i.size, i.bytes)) = some (some z, size, bytes))
    (hzs : z.cells.size = size) (hsz : 0 < size) (v : Value) (n : Nat) (xs : List Value) (hs : a.eval s = v) (hown : w.ownsRow base e size v n xs)
    (xv : Value) (m : Nat) (news : List Value) (hx : a.eval x = xv) (hsrc : Rd w xv size m news) (h1 : ∀ u ∈ news, u.oneCell' = true)
    (h63 : n + m ≤ maxLen) (hbytes : (n + m) * bytes ≤ 140737488355328) (hbase : base ≤ w.heap.size)
    (h : ∀ v' w', w'.ownsRow base e size v' (n + m) (xs ++ news) → w.grownBy w' v.ownBlock → wpListIn F d P ops Q rest (a.put o.dst v') w') :
    wpListIn F d P ops Q (o :: rest) a w := by
  refine wpListIn_plain hgd fun K hK' => ?_
  obtain ⟨v', w', hrun, r1, r2⟩ := run_append_rd (P := P) t o.type base e z size bytes ht hinfo hzs hsz v n xs hown xv m news hsrc h1 h63 hbytes hbase
  unfold Oper.wpIn
  refine ⟨?_, ?_⟩
  · simp [Oper.about, ho, resolve, Target.leads, Sem.run_pure]
  · rw [Oper.semAt_plain F _ _ (by rw [ho]; intro c hc'; cases hc')]
    simp [execOp, ho, resolve, invoke, builtin, hs, hx, hrun, Result.andThen]
    exact hK' _ _ (h v' w' r1 r2)

theorem wpList_append_rd (hgd : o.guard = none) (s x : Operand) (t : TypeId)
    (ho : o.op = .call { callee := .builtin .append, args := #[s, x], argTypes := #[t, t] })
    (base : Nat) (e : TypeId) (z : Value) (size bytes : Nat) (ht : P.underlying t = some (.slice e)) (hinfo : (P.info? e).map (fun i => (i.zero, i.size, i.bytes)) = some (some z, size, bytes))
    (hzs : z.cells.size = size) (hsz : 0 < size) (v : Value) (n : Nat) (xs : List Value) (hs : a.eval s = v) (hown : w.ownsRow base e size v n xs)
    (xv : Value) (m : Nat) (news : List Value) (hx : a.eval x = xv) (hsrc : Rd w xv size m news) (h1 : ∀ u ∈ news, u.oneCell' = true)
    (h63 : n + m ≤ maxLen) (hbytes : (n + m) * bytes ≤ 140737488355328) (hbase : base ≤ w.heap.size)
    (h : ∀ v' w', w'.ownsRow base e size v' (n + m) (xs ++ news) → w.grownBy w' v.ownBlock → wpList P ops Q rest (a.put o.dst v') w') :
    wpList P ops Q (o :: rest) a w :=
  wpList_plain hgd fun _ hK => wp_append_rd s x t ho base e z size bytes ht hinfo hzs hsz v n xs hs hown xv m news hx hsrc h1 h63 hbytes hbase fun v' w' g1 g2 => hK _ _ (h v' w' g1 g2)

/-- The same as one step of a region that draws its order. -/
theorem step_append_rd {K : Act → World → Prop} {E : Prop} (hgd : o.guard = none) (s x : Operand) (t : TypeId)
    (ho : o.op = .call { callee := .builtin .append, args := #[s, x], argTypes := #[t, t] })
    (base : Nat) (e : TypeId) (z : Value) (size bytes : Nat) (ht : P.underlying t = some (.slice e)) (hinfo : (P.info? e).map (fun i => (i.zero, i.size, i.bytes)) = some (some z, size, bytes))
    (hzs : z.cells.size = size) (hsz : 0 < size) (v : Value) (n : Nat) (xs : List Value) (hs : a.eval s = v) (hown : w.ownsRow base e size v n xs)
    (xv : Value) (m : Nat) (news : List Value) (hx : a.eval x = xv) (hsrc : Rd w xv size m news) (h1 : ∀ u ∈ news, u.oneCell' = true)
    (h63 : n + m ≤ maxLen) (hbytes : (n + m) * bytes ≤ 140737488355328) (hbase : base ≤ w.heap.size)
    (h : ∀ v' w', w'.ownsRow base e size v' (n + m) (xs ++ news) → w.grownBy w' v.ownBlock → K (a.put o.dst v') w') :
    if Region.wanted o (yielded ops a.tmps) = true then o.wp P a w K Q else E := by
  have hw : Region.wanted o (yielded ops a.tmps) = true := by simp [Region.wanted, hgd]
  rw [if_pos hw]
  exact wp_append_rd s x t ho base e z size bytes ht hinfo hzs hsz v n xs hs hown xv m news hx hsrc h1 h63 hbytes hbase h

theorem run_copy_rows (w : World) (dT sT ty elem : TypeId) (g o dLen dCap : Nat) (a : Addr) (sLen sCap size : Nat) (cur : Array Value) (t : TypeId) (cs : List Value)
    (hu : P.underlying dT = some (.slice elem)) (hs : (P.info? elem).map (·.size) = some size)
    (hg : w.heap[g]? = some (.cells cur t (0, 0))) (hn : cs.length = Nat.min sLen dLen * size)
    (hsrc : ∀ j v, cs[j]? = some v → w.cell? (a.add j) = some v) (hfit : o + cs.length ≤ cur.size) (h1 : ∀ v ∈ cs, v.oneCell' = true) :
    (Builtin.copy_ #[dT, sT] ty #[.slice (some ⟨g, o, none⟩) dLen dCap, .slice (some a) sLen sCap]).run P w =
      .ok (goInt (Nat.min sLen dLen)) (w.setRow g (cur.toList.take o ++ cs ++ cur.toList.drop (o + cs.length)).toArray) := by
  have hl := run_loadCells_list (P := P) w a cs hsrc
  have hst := run_storeCells_at P g o t cs 0 cur w hg (by simpa using hfit) h1
  cases hq : P.info? elem with
  | none => simp [hq] at hs
  | some i =>
    have hi : i.size = size := by simpa [hq] using hs
    simp [Builtin.copy_, run_underlying hu, Builtin.lenOf, Builtin.firstCells, sizeOf, typeInfo, hq, hi, ← hn, hl, hst]

/-- 'copy(d, s)' of whole elements into a block that is known. -/
theorem wpList_copy_rows (hgd : o.guard = none) (d s : Operand) (dT sT : TypeId)
    (ho : o.op = .call { callee := .builtin .copy, args := #[d, s], argTypes := #[dT, sT] }) (elem size : Nat) (hu : P.underlying dT = some (.slice elem)) (hsz : (P.info? elem).map (·.size) = some size)
    (g off dLen dCap : Nat) (hd : a.eval d = .slice (some ⟨g, off, none⟩) dLen dCap) (sv : Value) (m : Nat) (cs : List Value) (hs : a.eval s = sv) (hsrc : Rd w sv size m cs)
    (cur : List Value) (t : TypeId) (hg : w.heap[g]? = some (.cells cur.toArray t (0, 0)))
    (hfit : off + Nat.min m dLen * size ≤ cur.length) (h1 : ∀ v ∈ cs, v.oneCell' = true)
    (h : wpList P ops Q rest (a.put o.dst (goInt (Nat.min m dLen))) (w.setRow g (cur.take off ++ cs.take (Nat.min m dLen * size) ++ cur.drop (off + Nat.min m dLen * size)).toArray)) : wpList P ops Q (o :: rest) a w := by
  have hl := hsrc.1
  obtain ⟨ax, c, rfl, _, hcase⟩ := hsrc.source
  have hlt : (cs.take (Nat.min m dLen * size)).length = Nat.min m dLen * size := by
    rw [List.length_take, hl]
    exact Nat.min_eq_left (Nat.mul_le_mul_right _ (Nat.min_le_left _ _))
  refine wpList_plain hgd fun K hK => ?_
  unfold Oper.wp
  rcases hcase with ⟨rfl, rfl⟩ | ⟨ad, rfl, hcells⟩
  · have hz : Nat.min m dLen * size = 0 := by simpa using hlt.symm
    have hrun : (Builtin.copy_ #[dT, sT] o.type #[.slice (some ⟨g, off, none⟩) dLen dCap, .slice none m c]).run P w = .ok (goInt (Nat.min m dLen)) w := by
      cases hq : P.info? elem with
      | none => simp [hq] at hsz
      | some i => simp [Builtin.copy_, run_underlying hu, Builtin.lenOf, Builtin.firstCells, sizeOf, typeInfo, hq, storeCells]
    have hsame : w.setRow g (cur.take off ++ ([] : List Value).take (Nat.min m dLen * size) ++ cur.drop (off + Nat.min m dLen * size)).toArray = w := by
      rw [hz]
      simpa using setRow_self w g cur.toArray t (0, 0) hg
    rw [hsame] at h
    simp [execOp, ho, resolve, invoke, builtin, hd, hs, hrun, Result.andThen]
    exact hK _ _ h
  · have hrun := run_copy_rows (P := P) w dT sT o.type elem g off dLen dCap ad m c size cur.toArray t (cs.take (Nat.min m dLen * size)) hu hsz hg hlt
      (fun j v hv => hcells j v (by rw [List.getElem?_take] at hv; split at hv; exact hv; cases hv)) (by rw [hlt]; simpa using hfit) (fun v hv => h1 v (List.mem_of_mem_take hv))
    simp only [hlt] at hrun
    simp [execOp, ho, resolve, invoke, builtin, hd, hs, hrun, Result.andThen]
    refine hK _ _ ?_
    simpa using h

/-- 'make([]T, n)'. -/
theorem wpList_make_rd (hg : o.guard = none) (l c : Operand) (t : TypeId) (hop : o.op = Op.makeSlice t l c)
    (base : Nat) (e : TypeId) (z : Value) (size bytes : Nat) (h1 : P.underlying t = some (.slice e)) (hinfo : (P.info? e).map (fun i => (i.zero, i.size, i.bytes)) = some (some z, size, bytes))
    (L C : Int) (n : Nat) (hl : a.eval l = .int .i64 L) (hc : a.eval c = .int .i64 C) (hL : L = (n : Int)) (hC : C = (n : Int)) (b2 : bytes * n ≤ 281474976710656) (b3 : n ≤ maxLen) (b4 : base ≤ w.heap.size)
    (hK : ∀ w', w'.ownsRow base e size (.slice (some ⟨w.heap.size, 0, none⟩) n n) n (madeCells z.cells (n * size)).toList → w.grownBy w' none → wpList P ops Q rest (a.put o.dst (.slice (some ⟨w.heap.size, 0, none⟩) n n)) w') :
    wpList P ops Q (o :: rest) a w := by
  obtain ⟨i, hi, hz0, hz1, hz2⟩ := info_parts hinfo
  exact wpList_make_full w hg l c t hop base e i z size h1 hi hz0 hz1 .i64 .i64 L C n hl hc hL hC (by rw [hz2]; exact b2) b3 b4 hK

theorem wpListIn_make_rd {F : Fence} {d : Nat} (hg : o.guard = none) (l c : Operand) (t : TypeId) (hop : o.op = Op.makeSlice t l c)
    (base : Nat) (e : TypeId) (z : Value) (size bytes : Nat) (h1 : P.underlying t = some (.slice e)) (hinfo : (P.info? e).map (fun i => (i.zero, i.size, i.bytes)) = some (some z, size, bytes))
    (L C : Int) (n : Nat) (hl : a.eval l = .int .i64 L) (hc : a.eval c = .int .i64 C) (hL : L = (n : Int)) (hC : C = (n : Int)) (b2 : bytes * n ≤ 281474976710656) (b3 : n ≤ maxLen) (b4 : base ≤ w.heap.size)
    (hK : ∀ w', w'.ownsRow base e size (.slice (some ⟨w.heap.size, 0, none⟩) n n) n (madeCells z.cells (n * size)).toList → w.grownBy w' none → wpListIn F d P ops Q rest (a.put o.dst (.slice (some ⟨w.heap.size, 0, none⟩) n n)) w') :
    wpListIn F d P ops Q (o :: rest) a w := by
  obtain ⟨i, hi, hz0, hz1, hz2⟩ := info_parts hinfo
  refine wpListIn_plain hg fun K hK' => ?_
  obtain ⟨w', hrun, r1, r2⟩ := run_make_full (P := P) w base t e i z size h1 hi hz0 hz1 .i64 .i64 n (by rw [hz2]; exact b2) b3 b4
  subst hL
  subst hC
  unfold Oper.wpIn
  refine ⟨?_, ?_⟩
  · simp [Oper.about, hop]
  · rw [Oper.semAt_plain F _ _ (by rw [hop]; intro c hc'; cases hc')]
    simp [execOp, hop, hl, hc, hrun, Result.andThen]
    exact hK' _ _ (hK w' r1 r2)

/-- 'copy(d, s)', d a row of the call's own, s of the same length. -/
theorem wpList_copy_whole (hgd : o.guard = none) (d s : Operand) (dT sT : TypeId)
    (ho : o.op = .call { callee := .builtin .copy, args := #[d, s], argTypes := #[dT, sT] }) (elem size : Nat) (hu : P.underlying dT = some (.slice elem)) (hsz : (P.info? elem).map (·.size) = some size)
    (base e g n cap : Nat) (xs : List Value) (hd : a.eval d = .slice (some ⟨g, 0, none⟩) n cap) (hown : w.ownsRow base e size (.slice (some ⟨g, 0, none⟩) n cap) n xs)
    (sv : Value) (cs : List Value) (hs : a.eval s = sv) (hsrc : Rd w sv size n cs) (h1 : ∀ v ∈ cs, v.oneCell' = true)
    (h : ∀ w', w'.ownsRow base e size (.slice (some ⟨g, 0, none⟩) n cap) n cs → w.grownBy w' (some g) → wpList P ops Q rest (a.put o.dst (goInt n)) w') : wpList P ops Q (o :: rest) a w := by
  rcases hown.2 with ⟨h', _⟩ | ⟨g', cap', cur, h', hbg, hg, hnc, hcm, hcs, htake⟩
  · simp at h'
  · simp only [Value.slice.injEq, Option.some.injEq, Addr.mk.injEq, and_true, true_and] at h'
    obtain ⟨rfl, rfl⟩ := h'
    have hl := hsrc.1
    have hnn : n.min n = n := Nat.min_self n
    have hle : n * size ≤ cap * size := Nat.mul_le_mul_right _ hnc
    refine wpList_copy_rows hgd d s dT sT ho elem size hu hsz g 0 n cap hd sv n cs hs hsrc cur.toList e (by simpa using hg) (by rw [hnn]; simp [hcs]; exact hle) h1 ?_
    rw [hnn]
    have hct : cs.take (n * size) = cs := List.take_of_length_le (by omega)
    simp only [List.take_zero, List.nil_append, Nat.zero_add, hct]
    refine h _ ⟨hl, .inr ⟨g, cap, _, rfl, hbg, setRow_heap w g cur _ e _ hg, hnc, hcm, ?_, ?_⟩⟩ ⟨rfl, rfl, rfl, by simp, fun k _ hk => setRow_other w g k _ (fun e => hk (by simp [e]))⟩
    · simp [hl, hcs]; omega
    · simp [hl]
end

/-- Below across an append onto a row of the call's own, in terms of the append's law. -/
theorem below_append {B : Nat} {w0 w w' : World} {e s n : Nat} {v : Value} {xs : List Value} (hb : Below B w0 w) (hown : w.ownsRow B e s v n xs) (hg : w.grownBy w' v.ownBlock) (hB : B ≤ w.heap.size) : Below B w0 w' :=
  hb.grown hg hB (fun k hk => (hown.lt k hk).1)

theorem grown_of_below {w w' : World} (hb : Below w.heap.size w w') : w.grownBy w' none := ⟨hb.os, hb.tape, hb.output, hb.size, fun k hk _ => hb.block k hk⟩

theorem owns_below {w w' : World} {B e s n : Nat} {v : Value} {xs : List Value} (h : w.ownsRow B e s v n xs) (hb : Below w.heap.size w w') : w'.ownsRow B e s v n xs :=
  h.kept (grown_of_below hb) (by cases hv : v.ownBlock <;> simp)

/-- What the call owns from B on it owns from every smaller number on. -/
theorem owns_mono {w : World} {B B' e s n : Nat} {v : Value} {xs : List Value} (h : w.ownsRow B e s v n xs) (hB : B' ≤ B) : w.ownsRow B' e s v n xs := by
  refine ⟨h.1, ?_⟩
  rcases h.2 with h | ⟨g, cap, cur, h1, h2, r⟩
  · exact .inl h
  · exact .inr ⟨g, cap, cur, h1, Nat.le_trans hB h2, r⟩

theorem Below.to {B : Nat} {w0 w w' : World} (h : Below B w0 w) (hb : Below w.heap.size w w') (hB : B ≤ w.heap.size) : Below B w0 w' := h.trans (hb.mono hB)

theorem owns_slice {w : World} {B e s n : Nat} {v : Value} {xs : List Value} (h : w.ownsRow B e s v n xs) : ∃ a cap, v = .slice a n cap ∧ n ≤ cap ∧ n ≤ maxLen := by
  rcases h.2 with ⟨rfl, rfl⟩ | ⟨g, cap, cur, rfl, _, _, h1, h2, _⟩
  · exact ⟨none, 0, rfl, Nat.le_refl _, Nat.zero_le _⟩
  · exact ⟨_, cap, rfl, h1, Nat.le_trans h1 h2⟩

/-- Rows of different element types share no block. -/
theorem owns_apart {w : World} {B B' e e' s s' n n' : Nat} {v v' : Value} {xs xs' : List Value} (h : w.ownsRow B e s v n xs) (h' : w.ownsRow B' e' s' v' n' xs') (hne : e ≠ e') : v.ownBlock = none ∨ v.ownBlock ≠ v'.ownBlock := by
  rcases h.2 with ⟨rfl, _⟩ | ⟨g, cap, cur, rfl, _, hg, _⟩
  · exact .inl rfl
  · right
    intro e1
    rcases h'.2 with ⟨rfl, _⟩ | ⟨g', cap', cur', rfl, _, hg', _⟩
    · simp [Value.ownBlock] at e1
    · simp [Value.ownBlock] at e1
      subst e1
      rw [hg] at hg'
      simp only [Option.some.injEq, Obj.cells.injEq] at hg'
      exact hne hg'.2.1

theorem owns_setCell {w : World} {B e s n : Nat} {v : Value} {xs : List Value} (h : w.ownsRow B e s v n xs) {a : Addr} (ha : a.block < B) (u : Value) : (w.setCell a u).ownsRow B e s v n xs :=
  ownsRow_setCell_below h ha u

theorem Rd.lit (w : World) (cs : Array Value) (e s n : Nat) (hs : cs.size = n * s) (hn : n ≤ maxLen) : Rd (w.alloc (.cells cs e)) (.slice (some ⟨w.heap.size, 0, none⟩) n n) s n cs.toList :=
  Rd.of_owns (World.ownsRow_lit w cs n (Nat.le_refl _) hn hs)

theorem cell_grown {w w' : World} {row : Option Nat} (hg : w.grownBy w' row) {a : Addr} (hlt : a.block < w.heap.size) (hne : row ≠ some a.block) : w'.cell? a = w.cell? a :=
  World.cell?_of_block (w := w) (hg.block _ hlt (fun e => hne e.symm))

/-- A block's cells, read one by one: kept by what leaves the block alone. -/
theorem cells_grown {w w' : World} {row : Option Nat} {b : Nat} {A : Array Value} (hk : ∀ o, w.cell? ⟨b, o, none⟩ = A[o]?) (hg : w.grownBy w' row) (hlt : b < w.heap.size) (hne : row ≠ some b) : ∀ o, w'.cell? ⟨b, o, none⟩ = A[o]? :=
  fun o => (cell_grown (a := ⟨b, o, none⟩) hg hlt hne).trans (hk o)
theorem cells_below {w w' : World} {B b : Nat} {A : Array Value} (hk : ∀ o, w.cell? ⟨b, o, none⟩ = A[o]?) (hb : Below B w w') (hlt : b < B) : ∀ o, w'.cell? ⟨b, o, none⟩ = A[o]? :=
  fun o => (hb.cell (p := ⟨b, o, none⟩) hlt).trans (hk o)
theorem cells_alloc (w : World) (A : Array Value) (t : TypeId) : ∀ o, (w.alloc (.cells A t)).cell? ⟨w.heap.size, o, none⟩ = A[o]? := fun o => by simp

theorem owns_some {w : World} {B e s n : Nat} {v : Value} {xs : List Value} (h : w.ownsRow B e s v n xs) (hn : 0 < n) : ∃ g cap, v = .slice (some ⟨g, 0, none⟩) n cap ∧ B ≤ g ∧ g < w.heap.size ∧ n ≤ cap := by
  rcases h.2 with ⟨_, rfl⟩ | ⟨g, cap, cur, rfl, hb, hg, h1, h2, _⟩
  · omega
  · exact ⟨g, cap, rfl, hb, (Array.getElem?_eq_some_iff.1 hg).1, h1⟩

/-! ### slices of ints -/
def ints (xs : List Int) : List Value := xs.map (Value.int .i64)

theorem ints_one (xs : List Int) : ∀ u ∈ ints xs, u.oneCell' = true := by
  intro u hu
  obtain ⟨_, _, rfl⟩ := List.mem_map.1 hu
  rfl

/-- v is a slice of ints that reads as xs. -/
def IsInts (w : World) (v : Value) (xs : List Int) : Prop := Rd w v 1 xs.length (ints xs)

theorem IsInts.below {w w' : World} {v : Value} {xs : List Int} (h : IsInts w v xs) (hb : Below w.heap.size w w') : IsInts w' v xs := Rd.below h hb

theorem IsInts.nil (w : World) (a : Option Addr) (cap : Nat) : IsInts w (.slice a 0 cap) [] := Rd.nil w a 1 cap

theorem IsInts.open {w : World} {v : Value} {xs : List Int} (h : IsInts w v xs) :
    ∃ a cap, v = .slice a xs.length cap ∧ xs.length ≤ maxLen ∧ xs.length ≤ cap ∧ ∀ i (h : i < xs.length), ∃ b off, a = some ⟨b, off, none⟩ ∧ w.cell? ⟨b, off + i, none⟩ = some (.int .i64 xs[i]) := by
  obtain ⟨h1, h2, a, cap, rfl, hn, hc⟩ := h
  exact ⟨a, cap, rfl, h2, hn, fun i hi => hc i _ (by simp [ints, hi])⟩

theorem IsInts.of_owns {w : World} {B e : Nat} {v : Value} {n : Nat} {xs : List Int} (h : w.ownsRow B e 1 v n (ints xs)) : IsInts w v xs := by
  have hn : n = xs.length := by have := h.1; simpa [ints] using this.symm
  subst hn
  exact Rd.of_owns h

/-- The first k elements. -/
theorem IsInts.take {w : World} {a : Option Addr} {n cap : Nat} {xs : List Int} (h : IsInts w (.slice a n cap) xs) (k : Nat) (hk : k ≤ xs.length) : IsInts w (.slice a k cap) (xs.take k) := by
  obtain ⟨h1, h2, a', cap', hv, hn, hc⟩ := h
  simp only [Value.slice.injEq] at hv
  obtain ⟨rfl, rfl, rfl⟩ := hv
  have hl : (xs.take k).length = k := by rw [List.length_take]; omega
  refine ⟨by simp [ints], by omega, a, cap, by rw [hl], by omega, fun j u hu => hc j u ?_⟩
  rw [show ints (xs.take k) = (ints xs).take k from by simp [ints], List.getElem?_take] at hu
  split at hu
  · exact hu
  · cases hu

/-- 'copy(d[off:off+k], s)', d a row of ints of the call's own, s at least as long. -/
theorem run_copy_part {P : Program} {w : World} (t ty e : TypeId) (ht : P.underlying t = some (.slice e)) (hsz : (P.info? e).map (·.size) = some 1)
    (base g n cap : Nat) (ys xs : List Int) (hown : w.ownsRow base e 1 (.slice (some ⟨g, 0, none⟩) n cap) n (ints ys)) (u : Value) (hu : IsInts w u xs) (off k dcap : Nat) (hk : k ≤ xs.length) (hoff : off + k ≤ n) :
    ∃ w', (Builtin.copy_ #[t, t] ty #[.slice (some ⟨g, off, none⟩) k dcap, u]).run P w = .ok (.int .i64 (k : Int)) w' ∧
      w'.ownsRow base e 1 (.slice (some ⟨g, 0, none⟩) n cap) n (ints (ys.take off ++ xs.take k ++ ys.drop (off + k))) ∧ w.grownBy w' (some g) := by
  have hl := hown.1
  rcases hown.2 with ⟨h', _⟩ | ⟨g', cap', cur, h', hbg, hg, hnc, hcm, hcs, htake⟩
  · simp at h'
  · simp only [Value.slice.injEq, Option.some.injEq, Addr.mk.injEq, and_true, true_and] at h'
    obtain ⟨rfl, rfl⟩ := h'
    have hyl : ys.length = n := by simpa [ints] using hl
    have hxt : (xs.take k).length = k := by rw [List.length_take]; omega
    have hmin : Nat.min xs.length k = k := Nat.min_eq_right hk
    have hgo : goInt k = .int .i64 (k : Int) := rfl
    have htk : cur.toList.take (n * 1) = ints ys := htake
    rw [Nat.mul_one] at htk
    have hcl : n ≤ cur.toList.length := by rw [Array.length_toList, hcs]; omega
    -- the row behind the copy
    have hrow : (cur.toList.take off ++ ints (xs.take k) ++ cur.toList.drop (off + k)).take n = ints (ys.take off ++ xs.take k ++ ys.drop (off + k)) := by
      have e1 : cur.toList.take off = (ints ys).take off := by rw [← htk, List.take_take, Nat.min_eq_left (by omega)]
      have e2 : (cur.toList.drop (off + k)).take (n - (off + k)) = (ints ys).drop (off + k) := by rw [← htk, List.drop_take]
      have l1 : (cur.toList.take off).length = off := by rw [List.length_take]; omega
      have l2 : (ints (xs.take k)).length = k := by simp [ints]; omega
      have l3 : (cur.toList.take off ++ ints (xs.take k)).length = off + k := by rw [List.length_append, l1, l2]
      rw [List.take_append, l3, e2, List.take_of_length_le (by rw [l3]; exact hoff), e1]
      simp [ints]
    obtain ⟨ax, c, rfl, _, hcase⟩ := hu.source
    rcases hcase with ⟨rfl, hnil⟩ | ⟨ad, rfl, hcells⟩
    · have hk0 : k = 0 := by
        have : xs.length = 0 := by have := congrArg List.length hnil; simpa [ints] using this
        omega
      subst hk0
      refine ⟨w, ?_, ?_, World.grownBy.refl _ _⟩
      · cases hq : P.info? e with
        | none => simp [hq] at hsz
        | some i => simp [Builtin.copy_, run_underlying ht, Builtin.lenOf, Builtin.firstCells, sizeOf, typeInfo, hq, storeCells, goInt]
      · simpa using hown
    · have hct : (ints (xs.take k)) = (ints xs).take k := by simp [ints]
      have hrun := run_copy_rows (P := P) w t t ty e g off k dcap ad xs.length c 1 cur e (ints (xs.take k)) ht hsz hg (by rw [hmin]; simp [ints]; omega)
        (fun j v hv => hcells j v (by rw [hct, List.getElem?_take] at hv; split at hv; exact hv; cases hv)) (by rw [hcs]; simp [ints]; omega) (ints_one _)
      rw [hmin, hgo] at hrun
      have hlk : (ints (xs.take k)).length = k := by simp [ints]; omega
      rw [hlk] at hrun
      refine ⟨_, hrun, ⟨by simp [ints]; omega, .inr ⟨g, cap, _, rfl, hbg, setRow_heap w g cur _ e _ hg, hnc, hcm, ?_, ?_⟩⟩, ⟨rfl, rfl, rfl, by simp, fun j _ hk => setRow_other w g j _ (fun e => hk (by simp [e]))⟩⟩
      · simp [hcs, ints]; omega
      · rw [Nat.mul_one]
        exact hrow

end Go.Proofs.YtkcmkpljpmfiaaaDoor
