/- The walk of the law FnPlaceAt: the call returns true and turns nothing that was there. -/
import Derived.Test.YtlndlgbpnlfflaaD16
import Derived.Test.YtlndlgbpnlfflaaW15
import Derived.Test.YtlndlgbpnlfflaaPg
namespace Go.Proofs.Ytlndlgbpnlfflaa.fnPlaceAt
open Go.RowKit
set_option maxRecDepth 100000 in
set_option maxHeartbeats 1600000 in
theorem walk (A : Option Addr) (n c : Nat) (hnc : n ≤ c) (hc : c ≤ maxLen) (w : World) (hb : Byt w w.heap.size A n) :
    Calls Try.prog 8 #[.slice A n c] w fun e w' => e = .returned (.bool true) ∧ Below w.heap.size w w' := by
  have hc' := hc
  unfold maxLen at hc'
  by_cases h : 1048576 < n
  · go_enter Try.func8, Try.ntmps8
    go_wp2
    go_ret
    exact ⟨rfl, Below.refl _ _⟩
  · go_enter Try.func8, Try.ntmps8
    go_wp2_with fail
    refine (DrawPlaceAt_any _ _ _ _ hb hnc hc).mono ?_
    rintro e w1 ⟨s, p, x, rfl, hs, hb1⟩
    have HS := Lib.hid (show s.size ≤ maxLen by unfold maxLen; omega)
    by_cases h0 : placeAtI s.data.toList p x < 0
    · have H0 := Lib.hid (placeAt_neg h0)
      clear h0
      go_wp2_with fail
      with_reducible refine (implPlaceAt_any s p x _ HS.out).mono ?_
      rw [H0.out]
      rintro e w2 ⟨rfl, hb2⟩
      go_wp2_with fail
      with_reducible refine (specPlaceAt_any s p x _ HS.out).mono ?_
      rw [H0.out]
      rintro e w3 ⟨rfl, rfl⟩
      go_wp2_with (go_at_call 14; refine (alive_any _).mono ?_; rintro e w' ⟨rfl, rfl⟩)
      go_ret
      exact ⟨rfl, bstep hb1 hb2⟩
    · obtain ⟨m, k, q, rfl, hk, ht, hx0, hq, hkq, hqe, hcase⟩ := placeAt_get (by omega : 0 ≤ placeAtI s.data.toList p x)
      have hlo := lineOf_in ht hk hkq hqe
      have hco := columnOf_in ht hk hkq hqe
      have hle := lineEnd_of ht hk
      have hte := line_end_le hk
      have hsl : s.data.toList.length = s.size := rfl
      rw [show (q : Int) - k = ((q - k : Nat) : Int) by omega] at hco
      obtain ⟨t, htt⟩ : ∃ t, k + nlAt (s.data.toList.drop k) = t := ⟨_, rfl⟩
      rw [htt] at hle hqe hte hcase
      obtain ⟨y, rfl⟩ := Int.eq_ofNat_of_zero_le hx0
      have hd : (q - k = y) ∨ (q - k < y ∧ q = t) := by omega
      have HQ := Lib.hid hq
      have HO := Lib.hid hlo
      have HC := Lib.hid hco
      have HE := Lib.hid hle
      generalize q - k = d at HC hd
      clear h0 hk ht hq hlo hco hle htt hcase hx0
      go_wp2_with fail
      with_reducible refine (implPlaceAt_any s m y _ HS.out).mono ?_
      rw [HQ.out]
      rintro e w2 ⟨rfl, hb2⟩
      go_wp2_with fail
      with_reducible refine (specPlaceAt_any s m y _ HS.out).mono ?_
      rw [HQ.out]
      rintro e w3 ⟨rfl, rfl⟩
      rcases hd with rfl | ⟨hlt, rfl⟩
      · go_wp2_with (first | (go_at_call 30; refine (implLineOf_any _ _ _ HS.out).mono ?_; rw [HO.out]; rintro e w' ⟨rfl, rfl⟩) | (go_at_call 31; refine (implColumnOf_any _ _ _ HS.out).mono ?_; rw [HC.out]; rintro e w' ⟨rfl, rfl⟩))
        go_ret
        exact ⟨ret_bool (by simp <;> omega), bstep hb1 hb2⟩
      · have hne : ((d : Int) == (y : Int)) = false := by simp; omega
        go_wp2_with (first | (go_at_call 30; refine (implLineOf_any _ _ _ HS.out).mono ?_; rw [HO.out]; rintro e w' ⟨rfl, rfl⟩) | (go_at_call 31; refine (implColumnOf_any _ _ _ HS.out).mono ?_; rw [HC.out]; rintro e w' ⟨rfl, rfl⟩) | fail)
        with_reducible refine (implLineEnd_any s m _ HS.out).mono ?_
        rw [HE.out]
        rintro e w4 ⟨rfl, hb4⟩
        go_wp2
        go_ret
        exact ⟨ret_bool (by simp <;> omega), bstep (bstep hb1 hb2) hb4⟩
end Go.Proofs.Ytlndlgbpnlfflaa.fnPlaceAt
