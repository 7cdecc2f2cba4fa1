/- The walk of the law FnLineOf: the call returns true and turns nothing that was there. -/
import Derived.Test.YtckhhdhkchcljaaD5
import Derived.Test.YtckhhdhkchcljaaW15
import Derived.Test.YtckhhdhkchcljaaPg
namespace Go.Proofs.Ytckhhdhkchcljaa.fnLineOf
open Go.RowKit
set_option maxRecDepth 100000 in
set_option maxHeartbeats 1600000 in
theorem walk (A : Option Addr) (n c : Nat) (hnc : n ≤ c) (hc : c ≤ maxLen) (w : World) (hb : Byt w w.heap.size A n) :
    Calls Try.prog 8 #[.slice A n c] w fun e w' => e = .returned (.bool true) ∧ Below w.heap.size w w' := by
  have hc' := hc
  unfold maxLen at hc'
  by_cases h : 1048576 < n
  · go_enter Try.func8, Try.ntmps8
    go_wp2
    go_ret
    exact ⟨rfl, Below.refl _ _⟩
  · go_enter Try.func8, Try.ntmps8
    go_wp2_with fail
    refine (DrawLineOf_any _ _ _ _ hb hnc hc).mono ?_
    rintro e w1 ⟨s, p, rfl, hs, hb1⟩
    have HS := Lib.hid (show s.size ≤ maxLen by unfold maxLen; omega)
    cases hp : placeB s.data.toList p
    · have H0 := Lib.hid (lineOfI_0 hp)
      have HP := Lib.hid hp
      clear hp
      go_wp2_with fail
      with_reducible refine (implLineOf_any s p _ HS.out).mono ?_
      rw [H0.out]
      rintro e w2 ⟨rfl, rfl⟩
      go_wp2_with fail
      with_reducible refine (specLineOf_any s p _ HS.out).mono ?_
      rw [H0.out]
      rintro e w3 ⟨rfl, rfl⟩
      go_wp2_with (first | (go_at_call 33; refine (placeOk_any _ _ _ HS.out).mono ?_; rw [HP.out]; rintro e w' ⟨rfl, rfl⟩) | (go_at_call 17; refine (alive_any _).mono ?_; rintro e w' ⟨rfl, rfl⟩))
      go_ret
      exact ⟨rfl, hb1⟩
    · obtain ⟨ht, h0, h1⟩ : tvB s.data.toList = true ∧ 0 ≤ p ∧ p ≤ s.size := by
        have h3 := placeB_range hp
        exact ⟨placeB_tv hp, h3.1, h3.2⟩
      obtain ⟨q, rfl⟩ := Int.eq_ofNat_of_zero_le h0
      obtain ⟨hl1, hl2, hl3⟩ := place_line (l := s.data.toList) (p := q) (by show q ≤ s.size; omega)
      obtain ⟨k, hk⟩ : ∃ k, lastS (s.data.toList.take q) = k := ⟨_, rfl⟩
      obtain ⟨m, hm⟩ : ∃ m, nlc (s.data.toList.take q) = m := ⟨_, rfl⟩
      rw [hk, hm] at hl1
      rw [hk] at hl2 hl3
      have hml : m ≤ s.size := by rw [← hm]; exact nlc_take_size s q
      obtain ⟨t, htt⟩ : ∃ t, k + nlAt (s.data.toList.drop k) = t := ⟨_, rfl⟩
      have HO := Lib.hid (lineOf_in ht hl1 hl2 hl3)
      have H1 := Lib.hid (lineStart_of ht hl1)
      have H2 := Lib.hid ((lineEnd_of ht hl1).trans (congrArg Int.ofNat htt))
      have HP := Lib.hid hp
      rw [htt] at hl3
      have hte := line_end_le hl1
      rw [htt] at hte
      have hte2 : t ≤ s.size := hte
      clear hp ht hk hm hl1 htt hte h0
      go_wp2_with fail
      with_reducible refine (implLineOf_any s q _ HS.out).mono ?_
      rw [HO.out]
      rintro e w2 ⟨rfl, rfl⟩
      go_wp2_with fail
      with_reducible refine (specLineOf_any s q _ HS.out).mono ?_
      rw [HO.out]
      rintro e w3 ⟨rfl, rfl⟩
      go_wp2_with (go_at_call 33; refine (placeOk_any _ _ _ HS.out).mono ?_; rw [HP.out]; rintro e w' ⟨rfl, rfl⟩)
      with_reducible refine (implLineStart_any s m _ HS.out).mono ?_
      rw [H1.out]
      rintro e w4 ⟨rfl, hb4⟩
      go_wp2_with fail
      with_reducible refine (implLineEnd_any s m _ HS.out).mono ?_
      rw [H2.out]
      rintro e w5 ⟨rfl, hb5⟩
      go_wp2
      go_ret
      exact ⟨ret_bool (by simp <;> omega), bstep (bstep hb1 hb4) hb5⟩
end Go.Proofs.Ytckhhdhkchcljaa.fnLineOf
