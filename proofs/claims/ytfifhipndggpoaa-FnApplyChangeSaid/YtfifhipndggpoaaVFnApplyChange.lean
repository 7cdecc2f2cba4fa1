/- The walk of the law FnApplyChange: the call returns true and turns nothing that was there. -/
import Derived.Test.YtfifhipndggpoaaD7
import Derived.Test.YtfifhipndggpoaaW6
import Derived.Test.YtfifhipndggpoaaPf
namespace Go.Proofs.Ytfifhipndggpoaa.fnApplyChange
open Go.RowKit
set_option maxRecDepth 100000 in
set_option maxHeartbeats 1600000 in
theorem walk (A : Option Addr) (n c : Nat) (hnc : n ≤ c) (hc : c ≤ maxLen) (w : World) (hb : Byt w w.heap.size A n) :
    Calls Try.prog 13 #[.slice A n c] w fun e w' => e = .returned (.bool true) ∧ Below w.heap.size w w' := by
  have hc' := hc
  unfold maxLen at hc'
  by_cases h : 1048576 < n
  · go_enter Try.func13, Try.ntmps13
    go_wp2
    go_ret
    exact ⟨rfl, Below.refl _ _⟩
  · go_enter Try.func13, Try.ntmps13
    go_wp2_with fail
    refine (DrawApplyChange_any _ _ _ _ hb hnc hc).mono ?_
    rintro e w1 ⟨s, a, x, p, rfl, hs, hp, hb1⟩
    have B2 := B3.new w1 44 (.int .i64 a) (.int .i64 x) (.string p)
    have hb2 : Below w.heap.size w (w1.alloc (.cells #[.int .i64 a, .int .i64 x, .string p] 44)) := balloc hb1 _
    obtain ⟨c0, c1, c2⟩ := B2.cells
    go_wp2_with fail
    generalize w1.alloc (.cells #[.int .i64 a, .int .i64 x, .string p] 44) = w2 at B2 hb2 c0 c1 c2 ⊢
    cases hf : fitsB s.data.toList a x p.data.toList
    · obtain ⟨X, hX, h0⟩ : ∃ X : ByteArray, strBoolV (applyR s.data.toList a x p.data.toList) = .tuple #[.string X, .bool false] ∧ (X = ⟨#[]⟩ ∨ X = s) := by
        cases ht : tvB s.data.toList
        · exact ⟨⟨#[]⟩, by rw [applyR_0 ht]; rfl, .inl rfl⟩
        · exact ⟨s, by rw [applyR_1 ht hf]; rfl, .inr rfl⟩
      have HX := Lib.hid hX
      clear hX hf
      with_reducible refine (implApplyChange_any s a x p _ (by omega)).mono ?_
      rw [HX.out]
      rintro e w3 ⟨rfl, hb3⟩
      have B3' := B2.next hb3
      have hbw3 := bstep hb2 hb3
      clear B2 hb2 hb3 c0 c1 c2
      obtain ⟨c0, c1, c2⟩ := B3'.cells
      go_wp2_with fail
      with_reducible refine (specApplyChange_any s a x p _ (by omega)).mono ?_
      rw [HX.out]
      rintro e w4 ⟨rfl, hb4⟩
      have hbw4 := bstep hbw3 hb4
      rcases h0 with rfl | rfl
      · go_wp2_with (go_at_call 18; refine (alive_any _).mono ?_; rintro e w' ⟨rfl, rfl⟩)
        go_ret
        exact ⟨rfl, hbw4⟩
      · go_wp2_with (go_at_call 18; refine (alive_any _).mono ?_; rintro e w' ⟨rfl, rfl⟩)
        all_goals
          go_ret
          exact ⟨rfl, hbw4⟩
    · obtain ⟨ht, ha0, hx0, hax, hpp, hlen⟩ := fitsB_iff.1 hf
      obtain ⟨a', rfl⟩ := Int.eq_ofNat_of_zero_le ha0
      obtain ⟨x', rfl⟩ := Int.eq_ofNat_of_zero_le hx0
      have hsl : s.data.toList.length = s.size := rfl
      rw [hsl] at hax hlen
      obtain ⟨X, hX, ht1, hsz, e1, e2, e3⟩ : ∃ X : ByteArray, strBoolV (applyR s.data.toList a' x' p.data.toList) = .tuple #[.string X, .bool true] ∧ tvB X.data.toList = true ∧ (X.size : Int) = (s.size : Int) - x' + p.size
          ∧ X.extract 0 a' = s.extract 0 a' ∧ X.extract a' (a' + p.size) = p ∧ X.extract (a' + p.size) X.size = s.extract (a' + x') s.size := by
        refine ⟨mk (outL s.data.toList a' x' p.data.toList), by rw [applyR_2 hf]; rfl, out_tv hf, out_len hf, ?_, ?_, ?_⟩
        · rw [extract_head, extract_head]
          exact congrArg mk (out_head hf)
        · rw [extract_mid, Nat.add_sub_cancel_left]
          exact (congrArg mk (out_mid hf)).trans (mk_of p)
        · rw [extract_tail, extract_tail]
          exact congrArg mk (out_tail hf)
      have HX := Lib.hid hX
      have HT := Lib.hid ht1
      have hXs : X.size ≤ 120 := tv_size ht1
      have E1 := Lib.hid e1
      have E2 := Lib.hid e2
      have E3 := Lib.hid e3
      clear hX hf ht ht1 hsl hpp e1 e2 e3
      have g1 : (a' : Int) ≤ s.size := by omega
      have g2 : (x' : Int) ≤ s.size := by omega
      have g3 : (a' : Int) + p.size ≤ X.size := by omega
      have g4 : (a' : Int) + x' ≤ s.size := by omega
      clear hlen hax ha0 hx0
      have T1 := Lib.hid (show ((X.size : Int) == (s.size : Int) - x' + p.size) = true by rw [beq_iff_eq]; exact hsz)
      have T2 := Lib.hid (show decide ((a' : Int) + p.size ≤ X.size) = true from decide_eq_true g3)
      have V1 := Lib.hid (show IntKind.i64.wrap ((s.size : Int) - x') = (s.size : Int) - x' from IntWalk.i64_in _ (by omega))
      have V2 := Lib.hid (show IntKind.i64.wrap ((s.size : Int) - x' + p.size) = (s.size : Int) - x' + p.size from IntWalk.i64_in _ (by omega))
      have V3 := Lib.hid (show IntKind.i64.wrap ((a' : Int) + x') = (a' : Int) + x' from IntWalk.i64_in _ (by omega))
      clear hsz
      with_reducible refine (implApplyChange_any s a' x' p _ (by omega)).mono ?_
      rw [HX.out]
      rintro e w3 ⟨rfl, hb3⟩
      have B3' := B2.next hb3
      have hbw3 := bstep hb2 hb3
      clear B2 hb2 hb3 c0 c1 c2
      obtain ⟨c0, c1, c2⟩ := B3'.cells
      go_wp2_with fail
      with_reducible refine (specApplyChange_any s a' x' p _ (by omega)).mono ?_
      rw [HX.out]
      rintro e w4 ⟨rfl, hb4⟩
      have hbw4 := bstep hbw3 hb4
      have B4 := B3'.next hb4
      clear B3' hbw3 hb4 c0 c1 c2
      obtain ⟨c0, c1, c2⟩ := B4.cells
      go_wp2_with fail
      have t1 := T1.out
      have t2 := T2.out
      have v1 := V1.out
      have v2 := V2.out
      have v3 := V3.out
      have x1 := E1.out
      have x2 := E2.out
      have x3 := E3.out
      go_quiet ((go_at_call 16; exact Calls.quiet_of_same ((implTextValid_yes X _ HT.out).mono fun _ _ h => ⟨h.1, h.2.symm⟩)))
      clear t1 t2 v1 v2 v3 x1 x2 x3
      go_wp2
      go_ret
      exact ⟨rfl, bdrewN hbw4 _⟩
end Go.Proofs.Ytfifhipndggpoaa.fnApplyChange
