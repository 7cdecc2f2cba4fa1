/- The walk of the law FnChangeOrder: the call returns true and turns nothing that was there. -/
import Derived.Test.YtfifhipndggpoaaD7
import Derived.Test.YtfifhipndggpoaaW6
import Derived.Test.YtfifhipndggpoaaPf
namespace Go.Proofs.Ytfifhipndggpoaa.fnChangeOrder
open Go.RowKit
set_option maxRecDepth 100000 in
set_option maxHeartbeats 1600000 in
theorem walk (A : Option Addr) (n c : Nat) (hnc : n ≤ c) (hc : c ≤ maxLen) (w : World) (hb : Byt w w.heap.size A n) :
    Calls Try.prog 14 #[.slice A n c] w fun e w' => e = .returned (.bool true) ∧ Below w.heap.size w w' := by
  have hc' := hc
  unfold maxLen at hc'
  by_cases h : 1048576 < n
  · go_enter Try.func14, Try.ntmps14
    go_wp2
    go_ret
    exact ⟨rfl, Below.refl _ _⟩
  · go_enter Try.func14, Try.ntmps14
    go_wp2_with fail
    refine (DrawApplyChange_any _ _ _ _ hb hnc hc).mono ?_
    rintro e w1 ⟨s, a, x, p, rfl, hs, hp, hb1⟩
    have B2 := B3.new w1 44 (.int .i64 a) (.int .i64 x) (.string p)
    have hb2 : Below w.heap.size w (w1.alloc (.cells #[.int .i64 a, .int .i64 x, .string p] 44)) := balloc hb1 _
    obtain ⟨c0, c1, c2⟩ := B2.cells
    go_wp2_with fail
    generalize w1.alloc (.cells #[.int .i64 a, .int .i64 x, .string p] 44) = w2 at B2 hb2 c0 c1 c2 ⊢
    cases hf : fitsB s.data.toList a x p.data.toList
    · obtain ⟨X, hX, h0⟩ : ∃ X : ByteArray, strBoolV (applyR s.data.toList a x p.data.toList) = .tuple #[.string X, .bool false] ∧ (X = ⟨#[]⟩ ∨ X = s) := by
        cases ht : tvB s.data.toList
        · exact ⟨⟨#[]⟩, by rw [applyR_0 ht]; rfl, .inl rfl⟩
        · exact ⟨s, by rw [applyR_1 ht hf]; rfl, .inr rfl⟩
      have HX := Lib.hid hX
      clear hX hf
      with_reducible refine (implApplyChange_any s a x p _ (by omega)).mono ?_
      rw [HX.out]
      rintro e w3 ⟨rfl, hb3⟩
      have B3' := B2.next hb3
      have hbw3 := bstep hb2 hb3
      clear B2 hb2 hb3 c0 c1 c2
      obtain ⟨c0, c1, c2⟩ := B3'.cells
      go_wp2_with fail
      with_reducible refine (specApplyChange_any s a x p _ (by omega)).mono ?_
      rw [HX.out]
      rintro e w4 ⟨rfl, hb4⟩
      have hbw4 := bstep hbw3 hb4
      clear h0
      go_wp2_with (go_at_call 18; refine (alive_any _).mono ?_; rintro e w' ⟨rfl, rfl⟩)
      go_ret
      exact ⟨rfl, hbw4⟩
    · obtain ⟨ht, ha0, hx0, hax, hpp, hlen⟩ := fitsB_iff.1 hf
      obtain ⟨a', rfl⟩ := Int.eq_ofNat_of_zero_le ha0
      obtain ⟨x', rfl⟩ := Int.eq_ofNat_of_zero_le hx0
      have hsl : s.data.toList.length = s.size := rfl
      rw [hsl] at hax hlen
      obtain ⟨X, hX, hXd, ht1, hsz⟩ : ∃ X : ByteArray, strBoolV (applyR s.data.toList a' x' p.data.toList) = .tuple #[.string X, .bool true] ∧ X.data.toList = outL s.data.toList a' x' p.data.toList ∧ tvB X.data.toList = true ∧ (X.size : Int) = (s.size : Int) - x' + p.size :=
        ⟨mk (outL s.data.toList a' x' p.data.toList), by rw [applyR_2 hf]; rfl, rfl, out_tv hf, out_len hf⟩
      have HX := Lib.hid hX
      have HT := Lib.hid ht
      have HT1 := Lib.hid ht1
      have HXd := Lib.hid hXd
      have HF := Lib.hid hf
      have hXs : X.size ≤ 120 := tv_size ht1
      have hss : s.size ≤ 120 := tv_size ht
      have hxl : (outL s.data.toList a' x' p.data.toList).length = X.size := by rw [← hXd]; rfl
      have HXL := Lib.hid hxl
      have HSL := Lib.hid hsl
      clear hX hf ht ht1 hsl hpp hXd hxl hsz hlen hax ha0 hx0
      with_reducible refine (implApplyChange_any s a' x' p _ (by omega)).mono ?_
      rw [HX.out]
      rintro e w3 ⟨rfl, hb3⟩
      have B3' := B2.next hb3
      have hbw3 := bstep hb2 hb3
      clear B2 hb2 hb3 c0 c1 c2
      obtain ⟨c0, c1, c2⟩ := B3'.cells
      go_wp2_with fail
      with_reducible refine (specApplyChange_any s a' x' p _ (by omega)).mono ?_
      rw [HX.out]
      rintro e w4 ⟨rfl, hb4⟩
      have hbw4 := bstep hbw3 hb4
      have B4 := B3'.next hb4
      clear B3' hbw3 hb4 c0 c1 c2
      obtain ⟨c0, c1, c2⟩ := B4.cells
      by_cases hx1 : X.size = 120
      · have t1 : ((X.size : Int) == 120) = true := by simp [hx1]
        have T1 := Lib.hid t1
        clear hx1 t1
        have t1 := T1.out
        go_wp2_with (go_at_call 18; refine (alive_any _).mono ?_; rintro e w' ⟨rfl, rfl⟩)
        go_ret
        exact ⟨rfl, hbw4⟩
      · have t1 : ((X.size : Int) == 120) = false := by simpa using fun h => hx1 (by omega)
        by_cases hs1 : s.size = 120
        · have t2 : ((s.size : Int) == 120) = true := by simp [hs1]
          have T2 := Lib.hid t2
          clear hs1 t2
          have t2 := T2.out
          go_wp2_with (go_at_call 18; refine (alive_any _).mono ?_; rintro e w' ⟨rfl, rfl⟩)
          go_ret
          exact ⟨rfl, hbw4⟩
        · have t2 : ((s.size : Int) == 120) = false := by simpa using fun h => hs1 (by omega)
          obtain ⟨k1, k2, k3⟩ := tail_fits HT1.out (show X.data.toList.length < 120 by show X.size < 120; omega)
          obtain ⟨l1, l2, l3⟩ := tail_fits HT.out (show s.data.toList.length < 120 by show s.size < 120; omega)
          obtain ⟨m1, m2⟩ := order_fits HF.out (show s.data.toList.length < 120 by show s.size < 120; omega) (by rw [HXL.out]; omega)
          obtain ⟨Z, hZ⟩ : ∃ Z : ByteArray, mk (X.data.toList ++ [122]) = Z := ⟨_, rfl⟩
          have HA := Lib.hid (show strBoolV (applyR X.data.toList (X.size : Int) 0 (⟨#[122]⟩ : ByteArray).data.toList) = .tuple #[.string Z, .bool true] by
            rw [applyR_2 (show fitsB X.data.toList (X.size : Int) 0 (⟨#[122]⟩ : ByteArray).data.toList = true from k1)]
            show Value.tuple #[.string (mk (outL X.data.toList (X.data.toList.length : Int) 0 [122])), .bool true] = _
            rw [k2, hZ])
          obtain ⟨Y, hY⟩ : ∃ Y : ByteArray, mk (s.data.toList ++ [122]) = Y := ⟨_, rfl⟩
          have HY := Lib.hid (show strBoolV (applyR s.data.toList (s.size : Int) 0 (⟨#[122]⟩ : ByteArray).data.toList) = .tuple #[.string Y, .bool true] by
            rw [applyR_2 (show fitsB s.data.toList (s.size : Int) 0 (⟨#[122]⟩ : ByteArray).data.toList = true from l1)]
            show Value.tuple #[.string (mk (outL s.data.toList (s.data.toList.length : Int) 0 [122])), .bool true] = _
            rw [l2, hY])
          have HB := Lib.hid (show strBoolV (applyR Y.data.toList a' x' p.data.toList) = .tuple #[.string Z, .bool true] by
            rw [← hY, mk_data, applyR_2 m1]
            show Value.tuple #[.string (mk (outL (s.data.toList ++ [122]) a' x' p.data.toList)), .bool true] = _
            rw [m2, ← HXd.out, hZ])
          have hYs : Y.size ≤ 121 := by rw [← hY, mk_size, List.length_append]; show s.size + 1 ≤ 121; omega
          have hz1 : (⟨#[122]⟩ : ByteArray).size = 1 := rfl
          have HZ1 := Lib.hid hz1
          clear hZ hY k1 k2 k3 l1 l2 l3 m1 m2 hx1 hs1 hz1
          go_wp2_with fail
          with_reducible refine (implApplyChange_any X (X.size : Int) 0 ⟨#[122]⟩ _ (by rw [HZ1.out]; omega)).mono ?_
          rw [HA.out]
          rintro e w5 ⟨rfl, hb5⟩
          have B5 := B4.next hb5
          have hbw5 := bstep hbw4 hb5
          clear B4 hbw4 hb5 c0 c1 c2
          obtain ⟨c0, c1, c2⟩ := B5.cells
          go_wp2_with fail
          with_reducible refine (implApplyChange_any s (s.size : Int) 0 ⟨#[122]⟩ _ (by rw [HZ1.out]; omega)).mono ?_
          rw [HY.out]
          rintro e w6 ⟨rfl, hb6⟩
          have B6 := B5.next hb6
          have hbw6 := bstep hbw5 hb6
          clear B5 hbw5 hb6 c0 c1 c2
          obtain ⟨c0, c1, c2⟩ := B6.cells
          go_wp2_with fail
          with_reducible refine (implApplyChange_any Y a' x' p _ (by omega)).mono ?_
          rw [HB.out]
          rintro e w7 ⟨rfl, hb7⟩
          go_wp2
          go_ret
          exact ⟨rfl, bstep hbw6 hb7⟩
end Go.Proofs.Ytfifhipndggpoaa.fnChangeOrder
