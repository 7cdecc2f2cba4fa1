/- The walk of the law FnLineEnd: the call returns true and turns nothing that was there. -/
import Derived.Test.YtckhhdhkchcljaaD8
import Derived.Test.YtckhhdhkchcljaaW15
import Derived.Test.YtckhhdhkchcljaaPg
namespace Go.Proofs.Ytckhhdhkchcljaa.fnLineEnd
open Go.RowKit
set_option maxRecDepth 100000 in
set_option maxHeartbeats 1600000 in
theorem walk (A : Option Addr) (n c : Nat) (hnc : n ≤ c) (hc : c ≤ maxLen) (w : World) (hb : Byt w w.heap.size A n) :
    Calls Try.prog 9 #[.slice A n c] w fun e w' => e = .returned (.bool true) ∧ Below w.heap.size w w' := by
  have hc' := hc
  unfold maxLen at hc'
  by_cases h : 1048576 < n
  · go_enter Try.func9, Try.ntmps9
    go_wp2
    go_ret
    exact ⟨rfl, Below.refl _ _⟩
  · go_enter Try.func9, Try.ntmps9
    go_wp2_with fail
    refine (DrawLineEnd_any _ _ _ _ hb hnc hc).mono ?_
    rintro e w1 ⟨s, p, rfl, hs, hb1⟩
    have HS := Lib.hid (show s.size ≤ maxLen by unfold maxLen; omega)
    by_cases h0 : lineEndI s.data.toList p < 0
    · have H0 := Lib.hid (lineEnd_neg h0)
      clear h0
      go_wp2_with fail
      with_reducible refine (implLineEnd_any s p _ HS.out).mono ?_
      rw [H0.out]
      rintro e w2 ⟨rfl, hb2⟩
      go_wp2_with fail
      with_reducible refine (specLineEnd_any s p _ HS.out).mono ?_
      rw [H0.out]
      rintro e w3 ⟨rfl, rfl⟩
      go_wp2_with (go_at_call 17; refine (alive_any _).mono ?_; rintro e w' ⟨rfl, rfl⟩)
      go_ret
      exact ⟨rfl, bstep hb1 hb2⟩
    · obtain ⟨m, k, rfl, hk, ht⟩ := lineEnd_get (by omega : 0 ≤ lineEndI s.data.toList p)
      have he := lineEnd_of ht hk
      have hte := line_end_le hk
      have hn := nlAt_end (s.data.toList.drop k)
      have hlm := lineMany_one ht hk
      have hlo := lineOf_in ht hk (Nat.le_add_right _ _) (Nat.le_refl _)
      have hkl := hk.1
      obtain ⟨t, htt⟩ : ∃ t, k + nlAt (s.data.toList.drop k) = t := ⟨_, rfl⟩
      have hd : nlAt (s.data.toList.drop k) = t - k := by omega
      rw [htt] at he hte hlo
      rw [hd] at hlm hn
      have hsl : s.data.toList.length = s.size := rfl
      rw [List.length_drop, List.getElem?_drop, hsl, show k + (t - k) = t by omega] at hn
      have hkt : k ≤ t := by omega
      have hts : t ≤ s.size := hte
      have HE := Lib.hid he
      have HO := Lib.hid hlo
      have HM := Lib.hid (show lineManyI (s.extract k t).data.toList = 1 by rw [extract_data]; exact hlm)
      have HK := Lib.hid (lineStart_of ht hk)
      have hml : m ≤ s.size := by
        have := hk.2.1
        rw [← this]
        exact nlc_take_size s k
      have HX := Lib.hid (show (s.extract k t).size ≤ maxLen by rw [ByteArray.size_extract]; unfold maxLen; omega)
      have hx : t = s.size ∨ ∃ hlt : t < s.size, (s[t].toNat : Int) = 10 := by
        by_cases e : t = s.size
        · exact .inl e
        · have hlt : t < s.size := by omega
          refine .inr ⟨hlt, ?_⟩
          rcases hn with h | h
          · omega
          · rw [byte_at s t hlt] at h
            injection h with h
            rw [h]
            rfl
      clear h0 hk ht he hte hn hlm hlo htt hd hsl
      go_wp2_with fail
      with_reducible refine (implLineEnd_any s m _ HS.out).mono ?_
      rw [HE.out]
      rintro e w2 ⟨rfl, hb2⟩
      go_wp2_with fail
      with_reducible refine (specLineEnd_any s m _ HS.out).mono ?_
      rw [HE.out]
      rintro e w3 ⟨rfl, rfl⟩
      go_wp2_with fail
      with_reducible refine (implLineStart_any s m _ HS.out).mono ?_
      rw [HK.out]
      rintro e w4 ⟨rfl, hb4⟩
      have hbw := bstep (bstep hb1 hb2) hb4
      clear hb1 hb2 hb4
      rcases hx with rfl | ⟨hlt, hbt⟩
      · go_wp2_with (first | (go_at_call 38; refine (implLineMany_any _ _ HX.out).mono ?_; rw [HM.out]; rintro e w' ⟨rfl, rfl⟩) | (go_at_call 31; refine (implLineOf_any _ _ _ HS.out).mono ?_; rw [HO.out]; rintro e w' ⟨rfl, rfl⟩))
        go_ret
        exact ⟨ret_bool (by simp <;> omega), hbw⟩
      · have hbt' : ((s[t].toNat : Int) == 10) = true := by rw [beq_iff_eq]; exact hbt
        have hne : ((t : Int) == (s.size : Int)) = false := by simp; omega
        have HB := Lib.hid hbt'
        clear hbt hbt'
        have hb' := HB.out
        go_wp2_with (first | (go_at_call 38; refine (implLineMany_any _ _ HX.out).mono ?_; rw [HM.out]; rintro e w' ⟨rfl, rfl⟩) | (go_at_call 31; refine (implLineOf_any _ _ _ HS.out).mono ?_; rw [HO.out]; rintro e w' ⟨rfl, rfl⟩))
        go_ret
        exact ⟨ret_bool (by simp <;> omega), hbw⟩
end Go.Proofs.Ytckhhdhkchcljaa.fnLineEnd
