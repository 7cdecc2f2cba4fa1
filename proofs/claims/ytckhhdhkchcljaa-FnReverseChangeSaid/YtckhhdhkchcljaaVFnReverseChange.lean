/- The walk of the law FnReverseChange: the call returns true and turns nothing that was there. -/
import Derived.Test.YtckhhdhkchcljaaD7
import Derived.Test.YtckhhdhkchcljaaW6
import Derived.Test.YtckhhdhkchcljaaPf
namespace Go.Proofs.Ytckhhdhkchcljaa.fnReverseChange
open Go.RowKit
set_option maxRecDepth 100000 in
set_option maxHeartbeats 1600000 in
theorem walk (A : Option Addr) (n c : Nat) (hnc : n ≤ c) (hc : c ≤ maxLen) (w : World) (hb : Byt w w.heap.size A n) :
    Calls Try.prog 3 #[.slice A n c] w fun e w' => e = .returned (.bool true) ∧ Below w.heap.size w w' := by
  have hc' := hc
  unfold maxLen at hc'
  by_cases h : 1048576 < n
  · go_enter Try.func3, Try.ntmps3
    go_wp2
    go_ret
    exact ⟨rfl, Below.refl _ _⟩
  · go_enter Try.func3, Try.ntmps3
    go_wp2_with fail
    refine (DrawReverseChange_any _ _ _ _ hb hnc hc).mono ?_
    rintro e w1 ⟨s, a, x, p, rfl, hs, hp, hb1⟩
    have B2 := B3.new w1 24 (.int .i64 a) (.int .i64 x) (.string p)
    have hb2 : Below w.heap.size w (w1.alloc (.cells #[.int .i64 a, .int .i64 x, .string p] 24)) := balloc hb1 _
    obtain ⟨c0, c1, c2⟩ := B2.cells
    go_wp2_with fail
    generalize w1.alloc (.cells #[.int .i64 a, .int .i64 x, .string p] 24) = w2 at B2 hb2 c0 c1 c2 ⊢
    cases hf : fitsB s.data.toList a x p.data.toList
    · have HX := Lib.hid (show Value.tuple #[changeV (revR s.data.toList a x p.data.toList).1, .bool (revR s.data.toList a x p.data.toList).2] = .tuple #[.agg #[.int .i64 0, .int .i64 0, .string ⟨#[]⟩], .bool false] by rw [revR_0 hf]; rfl)
      clear hf
      with_reducible refine (implReverseChange_any s a x p _ (by omega)).mono ?_
      rw [HX.out]
      rintro e w3 ⟨rfl, hb3⟩
      have D3 := B2.next hb3
      have hbw3 := bstep hb2 hb3
      clear B2 hb2 hb3 c0 c1 c2
      have D4 := D3.alloc (.cells #[.int .i64 0, .int .i64 0, .string ⟨#[]⟩] 24)
      have E4 := B3.new w3 24 (.int .i64 0) (.int .i64 0) (.string ⟨#[]⟩)
      have hbw4 : Below w.heap.size w (w3.alloc (.cells #[.int .i64 0, .int .i64 0, .string ⟨#[]⟩] 24)) := balloc hbw3 _
      obtain ⟨c0, c1, c2⟩ := D4.cells
      go_wp2_with fail
      generalize w3.alloc (.cells #[.int .i64 0, .int .i64 0, .string ⟨#[]⟩] 24) = w4 at D4 E4 hbw4 c0 c1 c2 ⊢
      with_reducible refine (specReverseChange_any s a x p _ (by omega)).mono ?_
      rw [HX.out]
      rintro e w5 ⟨rfl, hb5⟩
      have E5 := E4.next hb5
      have hbw5 := bstep hbw4 hb5
      have E6 := E5.alloc (.cells #[.int .i64 0, .int .i64 0, .string ⟨#[]⟩] 24)
      have hbw6 : Below w.heap.size w (w5.alloc (.cells #[.int .i64 0, .int .i64 0, .string ⟨#[]⟩] 24)) := balloc hbw5 _
      obtain ⟨d0, d1, d2⟩ := E6.cells
      clear c0 c1 c2
      go_wp2_with (go_at_call 17; refine (alive_any _).mono ?_; rintro e w' ⟨rfl, rfl⟩)
      go_ret
      exact ⟨rfl, hbw6⟩
    · obtain ⟨ht, ha0, hx0, hax, hpp, hlen⟩ := fitsB_iff.1 hf
      obtain ⟨R, hR⟩ : ∃ R : ByteArray, mk ((s.data.toList.drop a.toNat).take ((a + x).toNat - a.toNat)) = R := ⟨_, rfl⟩
      have hRd : R.data.toList = (s.data.toList.drop a.toNat).take ((a + x).toNat - a.toNat) := by rw [← hR]; rfl
      have HX := Lib.hid (show Value.tuple #[changeV (revR s.data.toList a x p.data.toList).1, .bool (revR s.data.toList a x p.data.toList).2] = .tuple #[.agg #[.int .i64 a, .int .i64 p.size, .string R], .bool true] by rw [revR_1 hf, ← hR]; rfl)
      obtain ⟨X, hXe⟩ : ∃ X : ByteArray, mk (outL s.data.toList a x p.data.toList) = X := ⟨_, rfl⟩
      have hXd : X.data.toList = outL s.data.toList a x p.data.toList := by rw [← hXe]; rfl
      have HA := Lib.hid (show strBoolV (applyR s.data.toList a x p.data.toList) = .tuple #[.string X, .bool true] by rw [applyR_2 hf, ← hXe]; rfl)
      obtain ⟨g1, g2⟩ := rev_fits hf
      have hpl : p.data.toList.length = p.size := rfl
      rw [hpl, ← hXd, ← hRd] at g1 g2
      have HB := Lib.hid (show strBoolV (applyR X.data.toList a p.size R.data.toList) = .tuple #[.string s, .bool true] by rw [applyR_2 g1, g2]; rfl)
      have g3 := rev_rev hf
      rw [hpl, ← hXd, ← hRd] at g3
      have HV := Lib.hid (show Value.tuple #[changeV (revR X.data.toList a p.size R.data.toList).1, .bool (revR X.data.toList a p.size R.data.toList).2] = .tuple #[.agg #[.int .i64 a, .int .i64 x, .string p], .bool true] by rw [g3]; rfl)
      have hXs : X.size ≤ 120 := tv_size (show tvB X.data.toList = true by rw [hXd]; exact out_tv hf)
      have hRs : R.size ≤ 125 := by
        have : R.size = R.data.toList.length := rfl
        rw [this, hRd, List.length_take, List.length_drop]
        have : s.data.toList.length = s.size := rfl
        omega
      clear hf ht ha0 hx0 hax hpp hlen hR hRd hXe hXd g1 g2 g3 hpl
      with_reducible refine (implReverseChange_any s a x p _ (by omega)).mono ?_
      rw [HX.out]
      rintro e w3 ⟨rfl, hb3⟩
      have D3 := B2.next hb3
      have hbw3 := bstep hb2 hb3
      clear B2 hb2 hb3 c0 c1 c2
      have D4 := D3.alloc (.cells #[.int .i64 a, .int .i64 p.size, .string R] 24)
      have E4 := B3.new w3 24 (.int .i64 a) (.int .i64 p.size) (.string R)
      have hbw4 : Below w.heap.size w (w3.alloc (.cells #[.int .i64 a, .int .i64 p.size, .string R] 24)) := balloc hbw3 _
      obtain ⟨c0, c1, c2⟩ := D4.cells
      go_wp2_with fail
      generalize w3.alloc (.cells #[.int .i64 a, .int .i64 p.size, .string R] 24) = w4 at D4 E4 hbw4 c0 c1 c2 ⊢
      with_reducible refine (specReverseChange_any s a x p _ (by omega)).mono ?_
      rw [HX.out]
      rintro e w5 ⟨rfl, hb5⟩
      have D5 := D4.next hb5
      have E5 := E4.next hb5
      have hbw5 := bstep hbw4 hb5
      have D6 := D5.alloc (.cells #[.int .i64 a, .int .i64 p.size, .string R] 24)
      have E6 := E5.alloc (.cells #[.int .i64 a, .int .i64 p.size, .string R] 24)
      have hbw6 : Below w.heap.size w (w5.alloc (.cells #[.int .i64 a, .int .i64 p.size, .string R] 24)) := balloc hbw5 _
      clear c0 c1 c2 D3 D4 E4 hbw3 hbw4 hb5
      obtain ⟨c0, c1, c2⟩ := D6.cells
      obtain ⟨d0, d1, d2⟩ := E6.cells
      go_wp2_with fail
      generalize w5.alloc (.cells #[.int .i64 a, .int .i64 p.size, .string R] 24) = w6 at D6 E6 hbw6 c0 c1 c2 d0 d1 d2 ⊢
      with_reducible refine (implApplyChange_any s a x p _ (by omega)).mono ?_
      rw [HA.out]
      rintro e w7 ⟨rfl, hb7⟩
      have D7 := D6.next hb7
      have E7 := E6.next hb7
      have hbw7 := bstep hbw6 hb7
      clear c0 c1 c2 d0 d1 d2 D5 E5 D6 E6 hbw5 hbw6 hb7
      obtain ⟨d0, d1, d2⟩ := E7.cells
      go_wp2_with fail
      with_reducible refine (implApplyChange_any X a p.size R _ (by omega)).mono ?_
      rw [HB.out]
      rintro e w8 ⟨rfl, hb8⟩
      have D8 := D7.next hb8
      have E8 := E7.next hb8
      have hbw8 := bstep hbw7 hb8
      clear d0 d1 d2 D7 E7 hbw7 hb8
      obtain ⟨d0, d1, d2⟩ := E8.cells
      go_wp2_with fail
      with_reducible refine (implReverseChange_any X a p.size R _ (by omega)).mono ?_
      rw [HV.out]
      rintro e w9 ⟨rfl, hb9⟩
      have D9 := (D8.next hb9).alloc (.cells #[.int .i64 a, .int .i64 x, .string p] 24)
      have hbw9 : Below w.heap.size w (w9.alloc (.cells #[.int .i64 a, .int .i64 x, .string p] 24)) := balloc (bstep hbw8 hb9) _
      obtain ⟨c0, c1, c2⟩ := D9.cells
      clear d0 d1 d2 D8 E8
      go_wp2
      go_ret
      exact ⟨rfl, hbw9⟩
end Go.Proofs.Ytckhhdhkchcljaa.fnReverseChange
