/-
  Begin and Return of the reference; its copies.
-/
import Derived.Test.YtdhiefgbajogcaaSvC
import Derived.Test.YtdhiefgbajogcaaSvE
namespace Go.Proofs.Ytdhiefgbajogcaa
open Go.RowKit

set_option maxHeartbeats 2000000 in
set_option maxRecDepth 100000 in
theorem refCopies (l : List At) (v : Value) (w : World) (hx : IsAts w v l) (hb : l.length ≤ 1000000) (ho : ∀ x ∈ l, x.own.length ≤ 1000000) :
    Calls Try.prog 38 #[v] w fun e w' => ∃ v' us, e = .returned v' ∧ OwnAts w' w.heap.size 29 37 v' l us l.length ∧ Below w.heap.size w w' := by
  have HX := Lib.hid hx
  have HHO := Lib.hid ho
  obtain ⟨a, cap, rfl, hlen, -, -⟩ := hx.open
  unfold maxLen at hlen
  clear hx ho
  go_enter Try.func38, Try.ntmps38
  go_wp2_with fail
  go_loopw [3, 4] (fun o c wr => ∃ (k : Nat) (vo : Value) (us' : List Value), vo = o ∧ c = .int .i64 k ∧ k ≤ l.length ∧ w.heap.size ≤ wr.heap.size ∧ Hid (OwnAts wr w.heap.size 29 37 vo (l.take k) us' (l.take k).length) ∧ Hid (Below w.heap.size w wr)) (fun _ c _ => l.length - (intOf c).toNat)
  case atStart => exact ⟨0, _, [], rfl, rfl, Nat.zero_le _, Nat.le_refl _, Lib.hid (OwnAts.nil _ _ _ _), Lib.hid (Below.refl _ _)⟩
  case round =>
    obtain ⟨k, vo, us', rfl, rfl, hk, hsize, HOk, HBk⟩ := hrel
    have ek : IntKind.i64.wrap ((k : Int) + 1) = ((k + 1 : Nat) : Int) := by rw [IntKind.wrap_i64]; omega
    by_cases hlt : k < l.length
    · obtain ⟨_, _, e5, -, -, hcl⟩ := (HX.out.below HBk.out).open
      obtain ⟨b5, o5, u, rfl, hu, d0, d1, d2, d3, d4⟩ := hcl k hlt
      simp only [Value.slice.injEq, true_and] at e5
      obtain ⟨rfl, -⟩ := e5
      have hown := HHO.out l[k] (List.getElem_mem hlt)
      have HTK : Hid ((l.take k).length = k) := by show _ = _; rw [List.length_take]; omega
      have HTS : Hid (l.take (k + 1) = l.take k ++ [l[k]]) := List.take_succ_eq_append_getElem hlt
      have HCP := Lib.hid (refCopy l[k] [] u (.slice none 0 0) wr hu (IsRts.nil _ _ _) hown (Nat.zero_le _))
      obtain ⟨ua, uc, rfl⟩ := hu.sl
      generalize l.take k = T at *
      obtain ⟨a3, c3, rfl, -, -⟩ := owns_slice HOk.out.row
      rw [List.append_nil] at HCP
      clear hu hcl
      generalize l[k] = s at *
      obtain ⟨ae, ap, ac, an, ow⟩ := s
      simp only at d0 d1 d2 d3 d4 hown
      go_wp2_with fail
      refine HCP.out.mono ?_
      rintro e w3 ⟨u', rfl, hu', hb3⟩
      have HO3 := Lib.hid (HOk.out.below hb3)
      have HB3 := Lib.hid (Below.to HBk.out hb3 hsize)
      have HU3 := Lib.hid hu'
      obtain ⟨xa, xc, rfl, -, -⟩ := owns_slice hu'
      have hs3 := hb3.size
      have HLT : Hid (∀ i (h : i < us'.length), ∀ b, us'[i].ownBlock = some b → b < wr.heap.size) := fun i hi b hb => HOk.out.lt i hi (by rw [← HOk.out.len]; exact hi) b hb
      have HLX : Hid (∀ W : World, Rd (W.alloc (.cells #[.int .i64 ae, .int .i64 ap, .int .i64 ac, .int .i64 an, .slice xa ow.length xc] 29)) (.slice (some ⟨W.heap.size, 0, none⟩) 1 1) 5 1 (atRow ⟨ae, ap, ac, an, ow⟩ (.slice xa ow.length xc))) := fun W => Rd.lit W #[.int .i64 ae, .int .i64 ap, .int .i64 ac, .int .i64 an, .slice xa ow.length xc] 29 5 1 rfl (by unfold maxLen; omega)
      clear hu' hb3 HCP d0 d1 d2 d3 d4
      go_wp2_with (at_builtin; go_must (refine wpList_append_rd rfl _ _ 22 rfl w.heap.size 29 _ 5 56 Try.underlying22 infoAt rfl (by decide) (.slice a3 T.length c3) T.length (atCells T us') rfl (owns_below HO3.out.row ?b0) _ 1 (atRow ⟨ae, ap, ac, an, ow⟩ (.slice xa ow.length xc)) rfl (HLX.out _) (atRow_one _ rfl) ?b1 ?b2 ?b3 ?_))
      case b0 => exact (Below.refl _ _).alloc (Nat.le_refl _) _
      case b1 => rw [HTK.out]; unfold maxLen; omega
      case b2 => rw [HTK.out]; omega
      case b3 => simp; omega
      intro v4 w4 hv4 hg4
      have hO := HO3.out.below ((Below.refl w3.heap.size w3).alloc (Nat.le_refl _) (.cells #[.int .i64 ae, .int .i64 ap, .int .i64 ac, .int .i64 an, .slice xa ow.length xc] 29))
      have hu4 := HU3.out.alloc (.cells #[.int .i64 ae, .int .i64 ap, .int .i64 ac, .int .i64 an, .slice xa ow.length xc] 29)
      have hP := OwnAts.push (x := ⟨ae, ap, ac, an, ow⟩) (by decide) hO HLT.out hsize hu4 hv4 hg4
      rw [← HTS.out, show T.length + 1 = (l.take (k + 1)).length from by rw [HTS.out]; simp] at hP
      have HP := Lib.hid hP
      have HB4 := Lib.hid (below_append (Below.to HB3.out ((Below.refl _ _).alloc (Nat.le_refl _) _) HB3.out.size) hO.row hg4 (by simp; omega))
      have hsz4 : w.heap.size ≤ w4.heap.size := by have := hg4.size; simp at this; omega
      clear hP hu4 hO hv4 hg4 HU3 HO3 HB3
      go_wp2_with fail
      go_roundw
      case rel => exact ⟨k + 1, _, _, rfl, by go_num, by omega, hsz4, HP, HB4⟩
      case measure => simp [intOf]; omega
    · obtain rfl : k = l.length := by omega
      have HF : Hid (OwnAts wr w.heap.size 29 37 vo l us' l.length) := by
        have h := HOk.out
        rw [List.take_length] at h
        exact h
      go_wp2_with fail
      go_ret
      exact ⟨_, _, rfl, HF.out, HBk.out⟩

end Go.Proofs.Ytdhiefgbajogcaa
