/-
  merkle.Extends. (Printed by wip/tools/gen_dgd.py.)
-/
import Derived.Test.YtgfnelpfoegdaaaDoorMkY
import Derived.Laws.EntriesVeiled
namespace Go.Proofs.YtgfnelpfoegdaaaDoor
open Go.RowKit

theorem wpList_load_row_g {P : Program} {ops : Array Oper} {rest : List Oper} {o : Oper} {a : Act} {w : World} {Q : Exit → Act → World → Prop} (hw : Region.wanted o (yielded ops a.tmps) = true) (ty : TypeId) (x : Operand) (ho : o.op = .load ty x)
    (g : Nat) (hx : a.eval x = .pointer (some ⟨g, 0, none⟩)) (t : TypeId) (cs : Array Value) (fr : Nat × Nat) (d : TypeDesc) (hg : w.heap[g]? = some (.cells cs t fr))
    (hu : P.underlying ty = some d) (hd : (match d with | .struct _ | .array _ _ => true | _ => false) = true) (hi : (P.info? ty).map (·.size) = some cs.size)
    (h : wpList P ops Q rest (a.put o.dst (.agg cs)) w) : wpList P ops Q (o :: rest) a w :=
  wpList_step fun K hK => by rw [if_pos hw]; exact wp_load_row ty x ho g hx t cs fr d hg hu hd hi (hK _ _ h)

set_option maxHeartbeats 1000000 in
set_option maxRecDepth 100000 in
theorem mkExtends1 (KS old root : List Int) (hk : KS.length = 64) (m : Nat) (hs : List (List Int)) (v : Value) (w : World) (hv : IsHs w v (growF KS m hs true)) (hg : w.rangeAt 0 0 (KS.map (Value.int .u32)))
    (h32 : All32 hs) (hl : hs.length ≤ 65536) (h1 : 1 ≤ m) (hm : m ≤ hs.length) (hold : old = mrootF KS (hs.take m)) (hroot : root = mrootF KS hs) :
    Calls Tryd.prog 11 #[.agg (old.map (Value.int .u8)).toArray, .int .i64 m, .agg (root.map (Value.int .u8)).toArray, .int .i64 hs.length, v] w fun e w' => e = .returned (.bool true) ∧ Below w.heap.size w w' := by
  have hol : old.length = 32 := by rw [hold]; exact mrootF_len (h32.take _)
  have hrl : root.length = 32 := by rw [hroot]; exact mrootF_len h32
  obtain ⟨L, hL⟩ : ∃ L, hs.length = L := ⟨_, rfl⟩
  have h3 : ¬ ((m : Int) < 0) := by omega
  have h4 : ¬ ((m : Int) > (L : Int)) := by omega
  have h5 : ¬ ((L : Int) > 65536) := by omega
  have h6 : ¬ ((m : Int) = 0) := by omega
  obtain ⟨G, hG⟩ : ∃ G, growF KS m hs true = G := ⟨_, rfl⟩
  have hGl : G.length ≤ 65536 := by
    rw [← hG]
    have h := growF_len KS _ m hs true (Nat.le_refl _) h1 hm
    omega
  have hst : List.take G.length G = [] ++ growF KS m hs true := by rw [hG, List.nil_append, List.take_length]
  rw [hG] at hv
  obtain ⟨a, cap, rfl, hcap, hao⟩ := hv.open
  have hcl := mkClimbC KS old
  obtain ⟨B, hB⟩ : ∃ B, B = w.heap.size := ⟨_, rfl⟩
  obtain ⟨W1, hW1⟩ : ∃ W1, W1 = ((w.alloc (.cells (old.map (Value.int .u8)).toArray 33)).alloc (.cells (root.map (Value.int .u8)).toArray 33)) := ⟨_, rfl⟩
  have hb1 : Below B w W1 := by rw [hW1, hB]; exact ((Below.refl _ _).alloc (Nat.le_refl _) _).alloc (by simp) _
  have hs1 : W1.heap.size = B + 2 := by rw [hW1, hB]; simp
  have ho1 : NRow W1 .u8 B 33 old := by rw [hW1, hB]; exact (NRow.new w .u8 33 old).alloc _
  have hr1 : NRow W1 .u8 (B + 1) 33 root := by
    have h := NRow.new (w.alloc (.cells (old.map (Value.int .u8)).toArray 33)) .u8 33 root
    rw [show (w.alloc (.cells (old.map (Value.int .u8)).toArray 33)).heap.size = B + 1 by rw [hB]; simp] at h
    rw [hW1]; exact h
  have HTA := mkTaker G a cap W1 (hv.below (by rw [← hB]; exact hb1)) (by omega) (fun h0 b hb => by
    obtain ⟨b', o, rfl⟩ := hao h0
    simp only [Option.map_some, Option.some.injEq] at hb
    subst hb
    have h8 := hv.at_ (i := 0) h0
    have h7 : (G[0]).length = 32 := hv.2 _ (List.getElem_mem h0)
    have h9 := h8 0 (.int .u8 (G[0])[0]) (by simp [bts, h7])
    have h10 := World.block_lt_of_cell? w _ h9
    simp only at h10
    omega)
  rw [hs1] at HTA
  have HTA := Lib.hid HTA
  have HW1 := Lib.hid hW1
  have HB := Lib.hid hB
  have HB1 := Lib.hid hb1
  have HO1 := Lib.hid ho1
  have HR1 := Lib.hid hr1
  have HCL := Lib.hid hcl
  have HST := Lib.hid hst
  have HOLD := Lib.hid hold
  have HROOT := Lib.hid hroot
  have hlt := hs1
  clear hW1 hB hb1 ho1 hr1 hcl hst hold hroot hv hao
  rw [hL]
  go_enter Tryd.func11, Tryd.ntmps11
  go_wp2_with fail
  rw [← HW1.out, ← HB.out]
  refine HTA.out.mono ?_
  rintro e w2 ⟨rfl, hT2, hb2⟩
  have HT2 := Lib.hid hT2
  have HB2 := Lib.hid hb2
  clear hT2 hb2 HTA
  obtain ⟨pt, hpt⟩ : ∃ p, p = w2.heap.size := ⟨_, rfl⟩
  obtain ⟨W3, hW3⟩ : ∃ W3, W3 = (w2.alloc (.cells #[takeV (B + 2)] 68)).alloc (.cells #[climbV B pt (pt + 1)] 71) := ⟨_, rfl⟩
  have hT2 := HT2.out
  have hb2 := HB2.out
  have hps : B + 2 + 1 + 1 < pt := by rw [hpt]; exact hT2.miss.lt
  have hb3 : Below w2.heap.size w2 W3 := by rw [hW3]; exact ((Below.refl _ _).alloc (Nat.le_refl _) _).alloc (by simp) _
  have ho2 : NRow w2 .u8 B 33 old := HO1.out.below (hlt ▸ hb2) (by omega)
  have hr2 : NRow w2 .u8 (B + 1) 33 root := HR1.out.below (hlt ▸ hb2) (by omega)
  have hr3 : NRow W3 .u8 (B + 1) 33 root := hr2.below hb3 (by omega)
  have hk3 : W3.rangeAt 0 0 (KS.map (Value.int .u32)) := by
    have hB0 : 0 < B := by rw [HB.out]; have h9 := hg 0 (.int .u32 KS[0]) (by simp [hk]); exact World.block_lt_of_cell? w _ h9
    exact range_below (range_below (range_below hg HB1.out hB0) (hlt ▸ hb2) (by omega)) hb3 (by omega)
  have hbw : Below B w W3 := (HB1.out.trans ((hlt ▸ hb2 : Below (B + 2) W1 w2).mono (by omega))).trans (hb3.mono (by omega))
  have hC3 : Cl W3 KS old B pt (pt + 1) (B + 2) a cap G G.length := by
    refine ⟨hT2.kb hb3, ho2.below hb3 (by omega), ?_, ?_, hk3, hk, by omega, by omega, by omega⟩
    · rw [hW3, hpt]; exact (Boxed.new _ _ _).alloc _
    · rw [hW3]
      have h := Boxed.new (w2.alloc (.cells #[takeV (B + 2)] 68)) 71 (climbV B pt (pt + 1))
      rw [show (w2.alloc (.cells #[takeV (B + 2)] 68)).heap.size = pt + 1 by rw [hpt]; simp] at h
      exact h
  have hcl := HCL.out B pt (pt + 1) (B + 2) cap a G L m hs true [] G.length W3 (by omega) hC3 HST.out (Nat.le_refl _) h1 hm hl h32 (fun _ => HOLD.out)
  rw [← HOLD.out, ← HROOT.out, hL] at hcl
  have HCC := Lib.hid hcl
  have HR3 := Lib.hid hr3
  have HO3 := Lib.hid hC3.old
  have HBW := Lib.hid hbw
  have HPT := Lib.hid hpt
  unfold takeV climbV at hW3
  have HW3 := Lib.hid hW3
  clear hT2 hb2 hpt hb3 ho2 hr2 hr3 hk3 hbw hC3 hcl hW3 HCL HT2 HB2 HST HO1 HR1 HB1 HW1
  go_wp2_with fail
  rw [← HPT.out, ← HW3.out]
  refine HCC.out.mono ?_
  rintro e w4 ⟨rfl, hT4, hk4⟩
  obtain ⟨R, hR⟩ : ∃ R, R = w4.heap.size := ⟨_, rfl⟩
  obtain ⟨V5, hV5⟩ : ∃ V, V = (w4.alloc (.cells #[.int .u8 0, .int .u8 0, .int .u8 0, .int .u8 0, .int .u8 0, .int .u8 0, .int .u8 0, .int .u8 0, .int .u8 0, .int .u8 0, .int .u8 0, .int .u8 0, .int .u8 0, .int .u8 0, .int .u8 0, .int .u8 0, .int .u8 0, .int .u8 0, .int .u8 0, .int .u8 0, .int .u8 0, .int .u8 0, .int .u8 0, .int .u8 0, .int .u8 0, .int .u8 0, .int .u8 0, .int .u8 0, .int .u8 0, .int .u8 0, .int .u8 0, .int .u8 0] 33)).alloc (.cells #[.int .u8 0, .int .u8 0, .int .u8 0, .int .u8 0, .int .u8 0, .int .u8 0, .int .u8 0, .int .u8 0, .int .u8 0, .int .u8 0, .int .u8 0, .int .u8 0, .int .u8 0, .int .u8 0, .int .u8 0, .int .u8 0, .int .u8 0, .int .u8 0, .int .u8 0, .int .u8 0, .int .u8 0, .int .u8 0, .int .u8 0, .int .u8 0, .int .u8 0, .int .u8 0, .int .u8 0, .int .u8 0, .int .u8 0, .int .u8 0, .int .u8 0, .int .u8 0] 33) := ⟨_, rfl⟩
  obtain ⟨V6, hV6⟩ : ∃ V, V = V5.setRow R (old.map (Value.int .u8)).toArray := ⟨_, rfl⟩
  obtain ⟨V7, hV7⟩ : ∃ V, V = V6.setRow (R + 1) (root.map (Value.int .u8)).toArray := ⟨_, rfl⟩
  have hy1 : NRow V5 .u8 R 33 (List.replicate 32 0) := by rw [hV5, hR]; exact (NRow.new w4 .u8 33 (List.replicate 32 0)).alloc _
  have hy2 : NRow V5 .u8 (R + 1) 33 (List.replicate 32 0) := by
    have h := NRow.new (w4.alloc (.cells #[.int .u8 0, .int .u8 0, .int .u8 0, .int .u8 0, .int .u8 0, .int .u8 0, .int .u8 0, .int .u8 0, .int .u8 0, .int .u8 0, .int .u8 0, .int .u8 0, .int .u8 0, .int .u8 0, .int .u8 0, .int .u8 0, .int .u8 0, .int .u8 0, .int .u8 0, .int .u8 0, .int .u8 0, .int .u8 0, .int .u8 0, .int .u8 0, .int .u8 0, .int .u8 0, .int .u8 0, .int .u8 0, .int .u8 0, .int .u8 0, .int .u8 0, .int .u8 0] 33)) .u8 33 (List.replicate 32 0)
    rw [show (w4.alloc (.cells #[.int .u8 0, .int .u8 0, .int .u8 0, .int .u8 0, .int .u8 0, .int .u8 0, .int .u8 0, .int .u8 0, .int .u8 0, .int .u8 0, .int .u8 0, .int .u8 0, .int .u8 0, .int .u8 0, .int .u8 0, .int .u8 0, .int .u8 0, .int .u8 0, .int .u8 0, .int .u8 0, .int .u8 0, .int .u8 0, .int .u8 0, .int .u8 0, .int .u8 0, .int .u8 0, .int .u8 0, .int .u8 0, .int .u8 0, .int .u8 0, .int .u8 0, .int .u8 0] 33)).heap.size = R + 1 by rw [hR]; simp] at h
    rw [hV5]; exact h
  have hy62 : NRow V6 .u8 (R + 1) 33 (List.replicate 32 0) := by rw [hV6]; exact (setRow_other V5 R (R + 1) _ (by omega)).trans hy2
  have hy71 : NRow V7 .u8 R 33 old := by rw [hV7, hV6]; exact (setRow_other _ (R + 1) R _ (by omega)).trans hy1.store
  have hy72 : NRow V7 .u8 (R + 1) 33 root := by rw [hV7]; exact hy62.store
  have hbV : Below w4.heap.size w4 V7 := by
    rw [hV7, hV6, hV5, hR]
    exact below_setRow (below_setRow (((Below.refl _ _).alloc (Nat.le_refl _) _).alloc (by simp) _) _ _ (Nat.le_refl _)) _ _ (by omega)
  have hR4 : B + 1 < w4.heap.size := (hk4.row HR3.out (by omega)).lt
  have ho4 : NRow V7 .u8 B 33 old := (hk4.row HO3.out (by omega)).below hbV (by omega)
  have hr4 : NRow V7 .u8 (B + 1) 33 root := (hk4.row HR3.out (by omega)).below hbV hR4
  have HDN := Lib.hid (mkDone G a cap (B + 2) V7 (hT4.kb hbV))
  have hend : Below B w V7 := (HBW.out.trans (hk4.below.mono (by omega))).trans (hbV.mono (by omega))
  have HEND := Lib.hid hend
  have HY1 := Lib.hid hy1
  have HY62 := Lib.hid hy62
  have HY71 := Lib.hid hy71
  have HY72 := Lib.hid hy72
  have HO4 := Lib.hid ho4
  have HR4 := Lib.hid hr4
  have HR := Lib.hid hR
  have HV5 := Lib.hid hV5
  have HV6 := Lib.hid hV6
  have HV7 := Lib.hid hV7
  have he1 := fun W => eql_same old hol W
  have he2 := fun W => eql_same root hrl W
  clear hT4 hk4 hR hV5 hV6 hV7 hy1 hy2 hy62 hy71 hy72 hbV ho4 hr4 hR4 hend HCC HR3 HBW
  go_wp2_with
    (first
      | (rw [← HV5.out, ← HR.out]; refine wpList_store_row rfl 33 _ _ rfl R (old.map (Value.int .u8)).toArray rfl rfl 33 _ HY1.out (by rw [info32]; simp [hol]) (by simp [hol]) (u8_all _) ?_; rw [← HV6.out])
      | (refine wpList_store_row rfl 33 _ _ rfl (R + 1) (root.map (Value.int .u8)).toArray rfl rfl 33 _ HY62.out (by rw [info32]; simp [hrl]) (by simp [hrl]) (u8_all _) ?_; rw [← HV7.out])
      | (refine wpList_load_row rfl 33 _ rfl R rfl 33 (old.map (Value.int .u8)).toArray (0, 0) _ HY71.out Tryd.underlying33 rfl (by rw [info32]; simp [hol]) ?_)
      | (refine wpList_load_row rfl 33 _ rfl B rfl 33 (old.map (Value.int .u8)).toArray (0, 0) _ HO4.out Tryd.underlying33 rfl (by rw [info32]; simp [hol]) ?_)
      | (refine wpList_load_row_g (by kernel_rfl) 33 _ rfl (R + 1) rfl 33 (root.map (Value.int .u8)).toArray (0, 0) _ HY72.out Tryd.underlying33 rfl (by rw [info32]; simp [hrl]) ?_)
      | (refine wpList_load_row_g (by kernel_rfl) 33 _ rfl (B + 1) rfl 33 (root.map (Value.int .u8)).toArray (0, 0) _ HR4.out Tryd.underlying33 rfl (by rw [info32]; simp [hrl]) ?_))
  refine HDN.out.mono ?_
  rintro e w9 ⟨rfl, h9⟩
  obtain rfl := h9.symm
  go_wp2_with fail
  go_ret
  exact ⟨rfl, by rw [← HB.out]; exact HEND.out⟩

end Go.Proofs.YtgfnelpfoegdaaaDoor
