/-
  The generator of returns.
-/
import Derived.Test.YtdhiefgbajogcaaRtH
namespace Go.Proofs.Ytdhiefgbajogcaa
open Go.RowKit

def NearR (day : Int) (rs : List Ret) : Prop := ∀ r ∈ rs, (r.kind = 1 → day - 3 ≤ r.fr) ∧ r.un ≤ day + 40

/-- What several ways come to is proved once. -/
theorem one_for_all {α β γ : Type} {C : α → β → γ → Prop} (G : α → β → γ → Prop) {goal : Prop} (main : (∀ a b c, C a b c → G a b c) → goal) (key : ∀ a b c, C a b c → G a b c) : goal := main key

set_option maxHeartbeats 4000000 in
set_option maxRecDepth 100000 in
theorem returns_any (l : List Int) (cs : List (Int × Int)) (v u : Value) (day : Int) (w : World) (hx : IsInts w v l) (hl : ∀ x ∈ l, I64 x) (hy : IsSps w u cs) (h1 : 1 ≤ cs.length) (h4 : cs.length ≤ 4) (hd0 : 0 ≤ day) (hd1 : day ≤ 3652058) :
    Calls Try.prog 35 #[v, u, .int .i64 day] w fun e w' => ∃ v', e = .returned v' ∧ ∃ rs, Hid (RetsOk cs.length rs ∧ rs.length ≤ 8 ∧ NearR day rs) ∧ w'.ownsRow w.heap.size 37 4 v' rs.length (rtCells rs) ∧ Below w.heap.size w w' := by
  obtain ⟨ad, cap, rfl, hlm, -, hc⟩ := hx.open
  unfold maxLen at hlm
  obtain ⟨a1, c1, rfl, -, -, -⟩ := hy.open
  have HC := Lib.hid hc
  have HW := Lib.hid hl
  have hwd : IntKind.i64.wrap (day - 3) = day - 3 := by rw [IntKind.wrap_i64]; omega
  clear hx hl hc hy
  obtain ⟨m, hm⟩ : ∃ m, cs.length = m := ⟨_, rfl⟩
  rw [hm] at h1 h4 ⊢
  clear hm
  have hmx : max (1 : Int) (m : Int) = (m : Int) := by omega
  have hm0 : ¬ (m = 0) := by omega
  have hmb : ((m : Int) == 0) = false := by simpa using hm0
  have hmi : ¬ ((m : Int) = 0) := by omega
  have hmn : ¬ ((m : Int) = -1) := by omega
  go_enter Try.func35, Try.ntmps35
  go_wp2_with fail
  go_loopw [7, 8] (fun o i wr => ∃ (j : Nat) (v7 : Value) (rs : List Ret), v7 = o ∧ i = .int .i64 j ∧ j ≤ 8 ∧ j ≤ l.length ∧ rs.length = j ∧ Hid (RetsOk m rs) ∧ Hid (NearR day rs) ∧ Hid (wr.ownsRow w.heap.size 37 4 v7 j (rtCells rs)) ∧ Hid (Below w.heap.size w wr)) (fun _ i _ => 20 - (intOf i).toNat)
  case atStart => exact ⟨0, _, [], rfl, rfl, by omega, by omega, rfl, Lib.hid (fun c hc => by cases hc), Lib.hid (fun c hc => by cases hc), Lib.hid (World.ownsRow_nil _ _ _ _), Lib.hid (Below.refl _ _)⟩
  case round =>
    obtain ⟨j, v7, rs, rfl, rfl, hj, hjl, hrj, HR, HN, HOW, HBR⟩ := hrel
    have hw3 : IntKind.i64.wrap ((j : Int) + 1) = ((j + 1 : Nat) : Int) := by rw [IntKind.wrap_i64]; omega
    by_cases hgo : (j : Int) < (l.length : Int) ∧ (j : Int) < 8
    · obtain ⟨hg1, hg2⟩ := hgo
      have hn0 : j < l.length := by omega
      obtain ⟨b, o, rfl, c0⟩ := HC.out j hn0
      have hlt := World.block_lt_of_cell? _ _ c0
      have C0 := (HBR.out.cell hlt).trans c0
      have HA0 := Lib.hid (around_any l[j] 1000000 (HW.out _ (List.getElem_mem hn0)) (by omega) wr)
      have ha0 := around_lo l[j] 1000000 (by omega)
      have ha1 := around_hi l[j] 1000000 (by omega)
      generalize around l[j] 1000000 = P at *
      generalize l[j] = l0 at *
      obtain ⟨p, rfl⟩ := Int.eq_ofNat_of_zero_le ha0
      obtain ⟨a3, c3, rfl, -, -⟩ := owns_slice HOW.out
      have hsz := HBR.out.size
      obtain ⟨k1, hk1⟩ : ∃ k1 : Nat, p % m = k1 := ⟨_, rfl⟩
      obtain ⟨q, hq⟩ : ∃ q : Nat, p / 4 = q := ⟨_, rfl⟩
      obtain ⟨k2, hk2⟩ : ∃ k2 : Nat, q % 8 = k2 := ⟨_, rfl⟩
      have hk1' : k1 < m := by rw [← hk1]; exact Nat.mod_lt _ (by omega)
      have hk2' : k2 < 8 := by omega
      have m1 : Int.tmod (p : Int) (m : Int) = (k1 : Int) := by rw [Int.tmod_eq_emod_of_nonneg (by omega), ← hk1]; rfl
      have n1 : (p : Int) % (m : Int) = (k1 : Int) := by rw [← hk1]; rfl
      have m2 : Int.tdiv (p : Int) 4 = (q : Int) := by rw [Int.tdiv_eq_ediv_of_nonneg (by omega)]; omega
      have n2 : (p : Int) / 4 = (q : Int) := by omega
      have n4 : IntKind.i64.wrap (q : Int) = (q : Int) := by rw [IntKind.wrap_i64]; omega
      have m3 : Int.tmod (q : Int) 8 = (k2 : Int) := by rw [Int.tmod_eq_emod_of_nonneg (by omega)]; omega
      have n3 : (q : Int) % 8 = (k2 : Int) := by omega
      have i2 : (k2 : Int) < 8 := by omega
      obtain ⟨K, E1, hK⟩ : ∃ K : Int, (#[.int .i64 1, .int .i64 1, .int .i64 1, .int .i64 1, .int .i64 2, .int .i64 2, .int .i64 3, .int .i64 1] : Array Value)[k2]? = some (.int .i64 K) ∧ (K = 1 ∨ K = 2 ∨ K = 3) := by
        rcases (by omega : k2 = 0 ∨ k2 = 1 ∨ k2 = 2 ∨ k2 = 3 ∨ k2 = 4 ∨ k2 = 5 ∨ k2 = 6 ∨ k2 = 7) with rfl | rfl | rfl | rfl | rfl | rfl | rfl | rfl <;> exact ⟨_, rfl, by omega⟩
      have A1 : ∀ X : World, (X.alloc (.cells #[.int .i64 1, .int .i64 1, .int .i64 1, .int .i64 1, .int .i64 2, .int .i64 2, .int .i64 3, .int .i64 1] 3)).cell? ⟨X.heap.size, k2, none⟩ = some (.int .i64 K) := fun X => (cells_alloc X _ _ k2).trans E1
      have A2 : ∀ (X : World) (o : Obj), ((X.alloc (.cells #[.int .i64 1, .int .i64 1, .int .i64 1, .int .i64 1, .int .i64 2, .int .i64 2, .int .i64 3, .int .i64 1] 3)).alloc o).cell? ⟨X.heap.size, k2, none⟩ = some (.int .i64 K) := fun X o => (((Below.refl _ _).alloc (Nat.le_refl _) o).cell (p := ⟨X.heap.size, k2, none⟩) (by simp)).trans (A1 X)
      have A3 : ∀ (X : World) (o : Obj), ((X.alloc o).alloc (.cells #[.int .i64 1, .int .i64 1, .int .i64 1, .int .i64 1, .int .i64 2, .int .i64 2, .int .i64 3, .int .i64 1] 3)).cell? ⟨X.heap.size + 1, k2, none⟩ = some (.int .i64 K) := fun X o => by
        have h := A1 (X.alloc o)
        rw [World.size_alloc] at h
        exact h
      obtain ⟨q1, hq1⟩ : ∃ q1 : Nat, p / 32 = q1 := ⟨_, rfl⟩
      obtain ⟨y, hy1⟩ : ∃ y : Nat, q1 % 40 = y := ⟨_, rfl⟩
      obtain ⟨q2, hq2⟩ : ∃ q2 : Nat, p / 1280 = q2 := ⟨_, rfl⟩
      obtain ⟨z, hz1⟩ : ∃ z : Nat, q2 % 5 = z := ⟨_, rfl⟩
      have t1 : Int.tdiv (p : Int) 32 = (q1 : Int) := by rw [Int.tdiv_eq_ediv_of_nonneg (by omega)]; omega
      have t1' : (p : Int) / 32 = (q1 : Int) := by omega
      have t2 : Int.tmod (q1 : Int) 40 = (y : Int) := by rw [Int.tmod_eq_emod_of_nonneg (by omega)]; omega
      have t2' : (q1 : Int) % 40 = (y : Int) := by omega
      have t3 : Int.tdiv (p : Int) 1280 = (q2 : Int) := by rw [Int.tdiv_eq_ediv_of_nonneg (by omega)]; omega
      have t3' : (p : Int) / 1280 = (q2 : Int) := by omega
      have t4 : Int.tmod (q2 : Int) 5 = (z : Int) := by rw [Int.tmod_eq_emod_of_nonneg (by omega)]; omega
      have t4' : (q2 : Int) % 5 = (z : Int) := by omega
      have t5 : IntKind.i64.wrap (q1 : Int) = (q1 : Int) := by rw [IntKind.wrap_i64]; omega
      have t6 : IntKind.i64.wrap (q2 : Int) = (q2 : Int) := by rw [IntKind.wrap_i64]; omega
      have hy40 : y < 40 := by omega
      have hz5 : z < 5 := by omega
      have t7 : IntKind.i64.wrap (day - 3 + (y : Int)) = day - 3 + (y : Int) := by rw [IntKind.wrap_i64]; omega
      obtain ⟨FF, hFF⟩ : ∃ FF, max 0 (min 3652058 (day - 3 + (y : Int))) = FF := ⟨_, rfl⟩
      have hF0 : 0 ≤ FF ∧ FF ≤ 3652058 ∧ day - 3 ≤ FF ∧ FF ≤ day + 36 := by omega
      obtain ⟨hF1, hF2, hF3, hF4⟩ := hF0
      have t8 : IntKind.i64.wrap (FF + (z : Int)) = FF + (z : Int) := by rw [IntKind.wrap_i64]; omega
      obtain ⟨UU, hUU⟩ : ∃ UU, min 3652058 (FF + (z : Int)) = UU := ⟨_, rfl⟩
      have hU0 : FF ≤ UU ∧ UU ≤ 3652058 ∧ UU ≤ FF + 4 := by omega
      obtain ⟨hU1, hU2, hU3⟩ := hU0
      obtain ⟨TB, hTB⟩ : ∃ TB : Obj, TB = .cells #[.int .i64 1, .int .i64 1, .int .i64 1, .int .i64 1, .int .i64 2, .int .i64 2, .int .i64 3, .int .i64 1] 3 := ⟨_, rfl⟩
      obtain ⟨SB, hSB⟩ : ∃ SB : Obj, SB = .cells #[.int .i64 k1, .int .i64 K, .int .i64 0, .int .i64 0] 37 := ⟨_, rfl⟩
      have HS1 : Hid (((wr.alloc TB).alloc SB).drew.heap[wr.heap.size + 1]? = some SB ∧ Below wr.heap.size wr ((wr.alloc TB).alloc SB).drew) := by
        refine ⟨?_, (((Below.refl _ _).alloc (Nat.le_refl _) _).alloc (by simp) _).drew⟩
        have h := World.alloc_heap_new (wr.alloc TB) SB
        rw [World.size_alloc] at h
        exact h
      have HS2 : Hid (((wr.alloc SB).alloc TB).drew.heap[wr.heap.size]? = some SB ∧ Below wr.heap.size wr ((wr.alloc SB).alloc TB).drew) := by
        refine ⟨?_, (((Below.refl _ _).alloc (Nat.le_refl _) _).alloc (by simp) _).drew⟩
        exact (Below.heap_alloc _ _ _ (by simp)).trans (World.alloc_heap_new wr SB)
      rw [hTB, hSB] at HS1 HS2
      clear hTB hSB hk1 hk2 hq hq1 hq2 hy1 hz1
      go_wp2_with fail
      refine HA0.out.mono ?_
      rintro e w' ⟨rfl, rfl⟩
      go_wp2_with fail
      refine' one_for_all (C := fun (W6 : World) (B : Nat) (_ : Nat) => Hid (W6.heap[B]? = some (.cells #[.int .i64 k1, .int .i64 K, .int .i64 0, .int .i64 0] 37)) ∧ wr.heap.size ≤ B ∧ Hid (Below wr.heap.size wr W6)) _ (fun KEY => ?main) ?key
      case main =>
        go_region
        all_goals
          first
            | (obtain ⟨W6, hW6⟩ : ∃ W6, W6 = World.drew (World.alloc (World.alloc wr (.cells #[.int .i64 1, .int .i64 1, .int .i64 1, .int .i64 1, .int .i64 2, .int .i64 2, .int .i64 3, .int .i64 1] 3)) (.cells #[.int .i64 k1, .int .i64 K, .int .i64 0, .int .i64 0] 37)) := ⟨_, rfl⟩
               have HSx := HS1
               rw [← hW6] at HSx
               rw [← hW6]
               obtain ⟨B, hB⟩ : ∃ B, B = wr.heap.size + 1 := ⟨_, rfl⟩
               have HSH : Hid (W6.heap[B]? = some (.cells #[.int .i64 k1, .int .i64 K, .int .i64 0, .int .i64 0] 37)) := by show _ = _; rw [hB]; exact HSx.out.1
               have hBs : wr.heap.size ≤ B := by omega
               obtain ⟨TA, hTA⟩ : ∃ TA, TA = wr.heap.size := ⟨_, rfl⟩
               rw [← hB, ← hTA]
               have HB6 := Lib.hid HSx.out.2
               clear hW6 hB hTA HSx)
            | (obtain ⟨W6, hW6⟩ : ∃ W6, W6 = World.drew (World.alloc (World.alloc wr (.cells #[.int .i64 k1, .int .i64 K, .int .i64 0, .int .i64 0] 37)) (.cells #[.int .i64 1, .int .i64 1, .int .i64 1, .int .i64 1, .int .i64 2, .int .i64 2, .int .i64 3, .int .i64 1] 3)) := ⟨_, rfl⟩
               have HSx := HS2
               rw [← hW6] at HSx
               rw [← hW6]
               obtain ⟨B, hB⟩ : ∃ B, B = wr.heap.size := ⟨_, rfl⟩
               have HSH : Hid (W6.heap[B]? = some (.cells #[.int .i64 k1, .int .i64 K, .int .i64 0, .int .i64 0] 37)) := by show _ = _; rw [hB]; exact HSx.out.1
               have hBs : wr.heap.size ≤ B := by omega
               obtain ⟨TA, hTA⟩ : ∃ TA, TA = wr.heap.size + 1 := ⟨_, rfl⟩
               rw [← hTA, ← hB]
               have HB6 := Lib.hid HSx.out.2
               clear hW6 hB hTA HSx)
          exact KEY W6 B TA ⟨HSH, hBs, HB6⟩
      case key =>
        rintro W6 B TA ⟨HSH, hBs, HB6⟩
        clear A1 A2 A3 HS1 HS2
        have d0 : W6.cell? ⟨B, 0, none⟩ = some (.int .i64 k1) := by simp [World.cell?, HSH.out]
        have d1 : W6.cell? ⟨B, 1, none⟩ = some (.int .i64 K) := by simp [World.cell?, HSH.out]
        have d2 : W6.cell? ⟨B, 2, none⟩ = some (.int .i64 0) := by simp [World.cell?, HSH.out]
        have d3 : W6.cell? ⟨B, 3, none⟩ = some (.int .i64 0) := by simp [World.cell?, HSH.out]
        have e2 : W6.frozen? ⟨B, 2, none⟩ = false := by simp [World.frozen?, HSH.out]
        have e3 : W6.frozen? ⟨B, 3, none⟩ = false := by simp [World.frozen?, HSH.out]
        rcases hK with rfl | rfl | rfl
        · have HSH7 : Hid (((W6.setCell ⟨B, 2, none⟩ (.int .i64 FF)).setCell ⟨B, 3, none⟩ (.int .i64 UU)).heap[B]? = some (.cells #[.int .i64 k1, .int .i64 1, .int .i64 FF, .int .i64 UU] 37)) := heap_setCell_same _ B 3 _ _ _ (heap_setCell_same W6 B 2 _ _ _ HSH.out)
          have r0 : ((W6.setCell ⟨B, 2, none⟩ (.int .i64 FF)).setCell ⟨B, 3, none⟩ (.int .i64 UU)).cell? ⟨B, 0, none⟩ = some (.int .i64 k1) := by simp only [World.cell?, HSH7.out]; rfl
          have r1 : ((W6.setCell ⟨B, 2, none⟩ (.int .i64 FF)).setCell ⟨B, 3, none⟩ (.int .i64 UU)).cell? ⟨B, 1, none⟩ = some (.int .i64 1) := by simp only [World.cell?, HSH7.out]; rfl
          have r2 : ((W6.setCell ⟨B, 2, none⟩ (.int .i64 FF)).setCell ⟨B, 3, none⟩ (.int .i64 UU)).cell? ⟨B, 2, none⟩ = some (.int .i64 FF) := by simp only [World.cell?, HSH7.out]; rfl
          have r3 : ((W6.setCell ⟨B, 2, none⟩ (.int .i64 FF)).setCell ⟨B, 3, none⟩ (.int .i64 UU)).cell? ⟨B, 3, none⟩ = some (.int .i64 UU) := by simp only [World.cell?, HSH7.out]; rfl
          have HS6 : Hid ((W6.setCell ⟨B, 2, none⟩ (.int .i64 FF)).heap[B]? = some (.cells #[.int .i64 k1, .int .i64 1, .int .i64 FF, .int .i64 0] 37)) := heap_setCell_same W6 B 2 _ _ _ HSH.out
          have r4 : (W6.setCell ⟨B, 2, none⟩ (.int .i64 FF)).cell? ⟨B, 3, none⟩ = some (.int .i64 0) := by simp only [World.cell?, HS6.out]; rfl
          have r5 : (W6.setCell ⟨B, 2, none⟩ (.int .i64 FF)).frozen? ⟨B, 3, none⟩ = false := by simp [World.frozen?, HS6.out]
          have HB7 : Hid (Below wr.heap.size wr ((W6.setCell ⟨B, 2, none⟩ (.int .i64 FF)).setCell ⟨B, 3, none⟩ (.int .i64 UU))) := (HB6.out.setCell (p := ⟨B, 2, none⟩) hBs _).setCell (p := ⟨B, 3, none⟩) hBs _
          obtain ⟨W7, hW7⟩ : ∃ W7, W7 = (W6.setCell ⟨B, 2, none⟩ (.int .i64 FF)).setCell ⟨B, 3, none⟩ (.int .i64 UU) := ⟨_, rfl⟩
          have HW7 := Lib.hid hW7
          have HZ7 : Hid (W7.heap.size = W6.heap.size) := by show _ = _; rw [hW7]; simp [World.setCell]
          rw [← hW7] at HSH7 HB7
          clear hW7
          have HR8 : Hid (RetsOk m (rs ++ [⟨k1, 1, FF, UU⟩])) := fun r hr => by
            rcases List.mem_append.1 hr with h | h
            · exact HR.out r h
            · simp at h
              subst h
              exact ⟨⟨by simp, by simpa using hk1'⟩, .inl ⟨rfl, hF1, hU1, hU2⟩⟩
          have HN8 : Hid (NearR day (rs ++ [⟨k1, 1, FF, UU⟩])) := fun r hr => by
            rcases List.mem_append.1 hr with h | h
            · exact HN.out r h
            · simp at h
              subst h
              exact ⟨fun _ => hF3, by simp only; omega⟩
          have g0 : W7.cell? ⟨B, 0, none⟩ = some (.int .i64 k1) := by simp [World.cell?, HSH7.out]
          have g1 : W7.cell? ⟨B, 1, none⟩ = some (.int .i64 1) := by simp [World.cell?, HSH7.out]
          have g2 : W7.cell? ⟨B, 2, none⟩ = some (.int .i64 FF) := by simp [World.cell?, HSH7.out]
          have g3 : W7.cell? ⟨B, 3, none⟩ = some (.int .i64 UU) := by simp [World.cell?, HSH7.out]
          have HLX : Hid (Rd (W7.alloc (.cells (litRt ⟨k1, 1, FF, UU⟩) 37)) (.slice (some ⟨W6.heap.size, 0, none⟩) 1 1) 4 1 (rtRow ⟨k1, 1, FF, UU⟩)) := by
            have h := Rd.lit W7 (litRt ⟨k1, 1, FF, UU⟩) 37 4 1 rfl (by unfold maxLen; omega)
            rw [HZ7.out] at h
            exact h
          have HO7 := Lib.hid (owns_below HOW.out HB7.out)
          have hs7 : w.heap.size ≤ W7.heap.size := Nat.le_trans hsz HB7.out.size
          go_wp2_with (at_builtin; go_must (rw [← HW7.out]; refine wpList_append_rd rfl _ _ 27 rfl w.heap.size 37 _ 4 32 Try.underlying27 infoRt rfl (by decide) (.slice a3 j c3) j (rtCells rs) rfl (owns_below HO7.out ?gb0) _ 1 (rtRow ⟨k1, 1, FF, UU⟩) rfl HLX.out (by intro c hc; simp [rtRow] at hc; rcases hc with rfl | rfl | rfl | rfl <;> rfl) ?gb1 ?gb2 ?gb3 ?_))
          case gb0 => exact (Below.refl _ _).alloc (Nat.le_refl _) _
          case gb1 => unfold maxLen; omega
          case gb2 => omega
          case gb3 => simp; omega
          intro v8 w8 hv8 hg8
          have HB8 := Lib.hid (below_append (Below.to (Below.to HBR.out HB7.out hsz) ((Below.refl _ _).alloc (Nat.le_refl _) _) hs7) (owns_below HO7.out ((Below.refl _ _).alloc (Nat.le_refl _) _)) hg8 (by simp; omega))
          have HO8 : Hid (w8.ownsRow w.heap.size 37 4 v8 (j + 1) (rtCells (rs ++ [⟨k1, 1, FF, UU⟩]))) := by
            show World.ownsRow _ _ _ _ _ _ _
            rw [rtCells_append, rtCells_single]
            exact hv8
          clear hv8 hg8
          go_wp2_with fail
          go_roundw
          case rel => exact ⟨j + 1, _, _, rfl, by go_num, by omega, by omega, by rw [List.length_append, List.length_singleton]; omega, HR8, HN8, HO8, HB8⟩
          case measure => simp [intOf]; omega
        · have HSH7 : Hid ((W6.setCell ⟨B, 3, none⟩ (.int .i64 FF)).heap[B]? = some (.cells #[.int .i64 k1, .int .i64 2, .int .i64 0, .int .i64 FF] 37)) := heap_setCell_same W6 B 3 _ _ _ HSH.out
          have r0 : (W6.setCell ⟨B, 3, none⟩ (.int .i64 FF)).cell? ⟨B, 0, none⟩ = some (.int .i64 k1) := by simp only [World.cell?, HSH7.out]; rfl
          have r1 : (W6.setCell ⟨B, 3, none⟩ (.int .i64 FF)).cell? ⟨B, 1, none⟩ = some (.int .i64 2) := by simp only [World.cell?, HSH7.out]; rfl
          have r2 : (W6.setCell ⟨B, 3, none⟩ (.int .i64 FF)).cell? ⟨B, 2, none⟩ = some (.int .i64 0) := by simp only [World.cell?, HSH7.out]; rfl
          have r3 : (W6.setCell ⟨B, 3, none⟩ (.int .i64 FF)).cell? ⟨B, 3, none⟩ = some (.int .i64 FF) := by simp only [World.cell?, HSH7.out]; rfl
          have HB7 : Hid (Below wr.heap.size wr (W6.setCell ⟨B, 3, none⟩ (.int .i64 FF))) := HB6.out.setCell (p := ⟨B, 3, none⟩) hBs _
          obtain ⟨W7, hW7⟩ : ∃ W7, W7 = W6.setCell ⟨B, 3, none⟩ (.int .i64 FF) := ⟨_, rfl⟩
          have HW7 := Lib.hid hW7
          have HZ7 : Hid (W7.heap.size = W6.heap.size) := by show _ = _; rw [hW7]; simp [World.setCell]
          rw [← hW7] at HSH7 HB7
          clear hW7
          have HR8 : Hid (RetsOk m (rs ++ [⟨k1, 2, 0, FF⟩])) := fun r hr => by
            rcases List.mem_append.1 hr with h | h
            · exact HR.out r h
            · simp at h
              subst h
              exact ⟨⟨by simp, by simpa using hk1'⟩, .inr (.inl ⟨rfl, rfl, hF1, hF2⟩)⟩
          have HN8 : Hid (NearR day (rs ++ [⟨k1, 2, 0, FF⟩])) := fun r hr => by
            rcases List.mem_append.1 hr with h | h
            · exact HN.out r h
            · simp at h
              subst h
              exact ⟨fun h => (by cases h), by simp only; omega⟩
          have g0 : W7.cell? ⟨B, 0, none⟩ = some (.int .i64 k1) := by simp [World.cell?, HSH7.out]
          have g1 : W7.cell? ⟨B, 1, none⟩ = some (.int .i64 2) := by simp [World.cell?, HSH7.out]
          have g2 : W7.cell? ⟨B, 2, none⟩ = some (.int .i64 0) := by simp [World.cell?, HSH7.out]
          have g3 : W7.cell? ⟨B, 3, none⟩ = some (.int .i64 FF) := by simp [World.cell?, HSH7.out]
          have HLX : Hid (Rd (W7.alloc (.cells (litRt ⟨k1, 2, 0, FF⟩) 37)) (.slice (some ⟨W6.heap.size, 0, none⟩) 1 1) 4 1 (rtRow ⟨k1, 2, 0, FF⟩)) := by
            have h := Rd.lit W7 (litRt ⟨k1, 2, 0, FF⟩) 37 4 1 rfl (by unfold maxLen; omega)
            rw [HZ7.out] at h
            exact h
          have HO7 := Lib.hid (owns_below HOW.out HB7.out)
          have hs7 : w.heap.size ≤ W7.heap.size := Nat.le_trans hsz HB7.out.size
          go_wp2_with (at_builtin; go_must (rw [← HW7.out]; refine wpList_append_rd rfl _ _ 27 rfl w.heap.size 37 _ 4 32 Try.underlying27 infoRt rfl (by decide) (.slice a3 j c3) j (rtCells rs) rfl (owns_below HO7.out ?hb0) _ 1 (rtRow ⟨k1, 2, 0, FF⟩) rfl HLX.out (by intro c hc; simp [rtRow] at hc; rcases hc with rfl | rfl | rfl | rfl <;> rfl) ?hb1 ?hb2 ?hb3 ?_))
          case hb0 => exact (Below.refl _ _).alloc (Nat.le_refl _) _
          case hb1 => unfold maxLen; omega
          case hb2 => omega
          case hb3 => simp; omega
          intro v8 w8 hv8 hg8
          have HB8 := Lib.hid (below_append (Below.to (Below.to HBR.out HB7.out hsz) ((Below.refl _ _).alloc (Nat.le_refl _) _) hs7) (owns_below HO7.out ((Below.refl _ _).alloc (Nat.le_refl _) _)) hg8 (by simp; omega))
          have HO8 : Hid (w8.ownsRow w.heap.size 37 4 v8 (j + 1) (rtCells (rs ++ [⟨k1, 2, 0, FF⟩]))) := by
            show World.ownsRow _ _ _ _ _ _ _
            rw [rtCells_append, rtCells_single]
            exact hv8
          clear hv8 hg8
          go_wp2_with fail
          go_roundw
          case rel => exact ⟨j + 1, _, _, rfl, by go_num, by omega, by omega, by rw [List.length_append, List.length_singleton]; omega, HR8, HN8, HO8, HB8⟩
          case measure => simp [intOf]; omega
        · obtain ⟨W7, rfl⟩ : ∃ W7 : World, W7 = W6 := ⟨_, rfl⟩
          have HSH7 := HSH
          have HB7 := HB6
          have HR8 : Hid (RetsOk m (rs ++ [⟨k1, 3, 0, 0⟩])) := fun r hr => by
            rcases List.mem_append.1 hr with h | h
            · exact HR.out r h
            · simp at h
              subst h
              exact ⟨⟨by simp, by simpa using hk1'⟩, .inr (.inr ⟨rfl, rfl, rfl⟩)⟩
          have HN8 : Hid (NearR day (rs ++ [⟨k1, 3, 0, 0⟩])) := fun r hr => by
            rcases List.mem_append.1 hr with h | h
            · exact HN.out r h
            · simp at h
              subst h
              exact ⟨fun h => (by cases h), by simp only; omega⟩
          have g0 : W7.cell? ⟨B, 0, none⟩ = some (.int .i64 k1) := by simp [World.cell?, HSH7.out]
          have g1 : W7.cell? ⟨B, 1, none⟩ = some (.int .i64 3) := by simp [World.cell?, HSH7.out]
          have g2 : W7.cell? ⟨B, 2, none⟩ = some (.int .i64 0) := by simp [World.cell?, HSH7.out]
          have g3 : W7.cell? ⟨B, 3, none⟩ = some (.int .i64 0) := by simp [World.cell?, HSH7.out]
          have HLX : Hid (Rd (W7.alloc (.cells (litRt ⟨k1, 3, 0, 0⟩) 37)) (.slice (some ⟨W7.heap.size, 0, none⟩) 1 1) 4 1 (rtRow ⟨k1, 3, 0, 0⟩)) := by
            have h := Rd.lit W7 (litRt ⟨k1, 3, 0, 0⟩) 37 4 1 rfl (by unfold maxLen; omega)
            skip
            exact h
          have HO7 := Lib.hid (owns_below HOW.out HB7.out)
          have hs7 : w.heap.size ≤ W7.heap.size := Nat.le_trans hsz HB7.out.size
          go_wp2_with (at_builtin; go_must (refine wpList_append_rd rfl _ _ 27 rfl w.heap.size 37 _ 4 32 Try.underlying27 infoRt rfl (by decide) (.slice a3 j c3) j (rtCells rs) rfl (owns_below HO7.out ?ib0) _ 1 (rtRow ⟨k1, 3, 0, 0⟩) rfl HLX.out (by intro c hc; simp [rtRow] at hc; rcases hc with rfl | rfl | rfl | rfl <;> rfl) ?ib1 ?ib2 ?ib3 ?_))
          case ib0 => exact (Below.refl _ _).alloc (Nat.le_refl _) _
          case ib1 => unfold maxLen; omega
          case ib2 => omega
          case ib3 => simp; omega
          intro v8 w8 hv8 hg8
          have HB8 := Lib.hid (below_append (Below.to (Below.to HBR.out HB7.out hsz) ((Below.refl _ _).alloc (Nat.le_refl _) _) hs7) (owns_below HO7.out ((Below.refl _ _).alloc (Nat.le_refl _) _)) hg8 (by simp; omega))
          have HO8 : Hid (w8.ownsRow w.heap.size 37 4 v8 (j + 1) (rtCells (rs ++ [⟨k1, 3, 0, 0⟩]))) := by
            show World.ownsRow _ _ _ _ _ _ _
            rw [rtCells_append, rtCells_single]
            exact hv8
          clear hv8 hg8
          go_wp2_with fail
          go_roundw
          case rel => exact ⟨j + 1, _, _, rfl, by go_num, by omega, by omega, by rw [List.length_append, List.length_singleton]; omega, HR8, HN8, HO8, HB8⟩
          case measure => simp [intOf]; omega
    · have HF : Hid (RetsOk m rs ∧ rs.length ≤ 8 ∧ NearR day rs) := ⟨HR.out, by omega, HN.out⟩
      have HV : Hid (wr.ownsRow w.heap.size 37 4 v7 rs.length (rtCells rs)) := by show World.ownsRow _ _ _ _ _ _ _; rw [hrj]; exact HOW.out
      have hparts : ¬ (j : Int) < (l.length : Int) ∨ ((j : Int) < (l.length : Int) ∧ ¬ (j : Int) < 8) := by omega
      rcases hparts with hg | ⟨hg, hg'⟩
      all_goals
        clear hgo
        go_wp2_with fail
        go_ret
        exact ⟨_, rfl, rs, HF, HV.out, HBR.out⟩

end Go.Proofs.Ytdhiefgbajogcaa
