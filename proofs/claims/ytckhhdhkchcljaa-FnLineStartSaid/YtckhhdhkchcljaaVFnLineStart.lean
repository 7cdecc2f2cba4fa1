/- The walk of the law FnLineStart: the call returns true and turns nothing that was there. -/
import Derived.Test.YtckhhdhkchcljaaD8
import Derived.Test.YtckhhdhkchcljaaW15
import Derived.Test.YtckhhdhkchcljaaPg
namespace Go.Proofs.Ytckhhdhkchcljaa.fnLineStart
open Go.RowKit
set_option maxRecDepth 100000 in
set_option maxHeartbeats 1600000 in
theorem walk (A : Option Addr) (n c : Nat) (hnc : n ≤ c) (hc : c ≤ maxLen) (w : World) (hb : Byt w w.heap.size A n) :
    Calls Try.prog 10 #[.slice A n c] w fun e w' => e = .returned (.bool true) ∧ Below w.heap.size w w' := by
  have hc' := hc
  unfold maxLen at hc'
  by_cases h : 1048576 < n
  · go_enter Try.func10, Try.ntmps10
    go_wp2
    go_ret
    exact ⟨rfl, Below.refl _ _⟩
  · go_enter Try.func10, Try.ntmps10
    go_wp2_with fail
    refine (DrawLineStart_any _ _ _ _ hb hnc hc).mono ?_
    rintro e w1 ⟨s, p, rfl, hs, hb1⟩
    have HS := Lib.hid (show s.size ≤ maxLen by unfold maxLen; omega)
    by_cases h0 : lineStartI s.data.toList p < 0
    · have H0 := Lib.hid (lineStart_neg h0)
      by_cases hp : p < 0
      · clear h0
        go_wp2_with fail
        with_reducible refine (implLineStart_any s p _ HS.out).mono ?_
        rw [H0.out]
        rintro e w2 ⟨rfl, hb2⟩
        go_wp2_with fail
        with_reducible refine (specLineStart_any s p _ HS.out).mono ?_
        rw [H0.out]
        rintro e w3 ⟨rfl, rfl⟩
        go_wp2_with (go_at_call 17; refine (alive_any _).mono ?_; rintro e w' ⟨rfl, rfl⟩)
        go_ret
        exact ⟨rfl, bstep hb1 hb2⟩
      · have hm := lineMany_le h0 (by omega)
        obtain ⟨M, hM⟩ : ∃ M, lineManyI s.data.toList = M := ⟨_, rfl⟩
        rw [hM] at hm
        have HM := Lib.hid hM
        clear h0 hM
        go_wp2_with fail
        with_reducible refine (implLineStart_any s p _ HS.out).mono ?_
        rw [H0.out]
        rintro e w2 ⟨rfl, hb2⟩
        go_wp2_with fail
        with_reducible refine (specLineStart_any s p _ HS.out).mono ?_
        rw [H0.out]
        rintro e w3 ⟨rfl, rfl⟩
        go_wp2_with (first | (go_at_call 38; refine (implLineMany_any _ _ HS.out).mono ?_; rw [HM.out]; rintro e w' ⟨rfl, rfl⟩) | (go_at_call 17; refine (alive_any _).mono ?_; rintro e w' ⟨rfl, rfl⟩))
        go_ret
        exact ⟨rfl, bstep hb1 hb2⟩
    · obtain ⟨m, k, rfl, hkk, hk, ht⟩ := lineStart_get (by omega : 0 ≤ lineStartI s.data.toList p)
      have HK := Lib.hid hkk
      have HO := Lib.hid (lineOf_in ht hk (Nat.le_refl _) (Nat.le_add_right _ _))
      have hco := columnOf_in ht hk (Nat.le_refl _) (Nat.le_add_right _ _)
      rw [Int.sub_self] at hco
      have HC := Lib.hid hco
      have hks : k ≤ s.size := hk.1
      have hml : m ≤ s.size := by
        have := hk.2.1
        rw [← this]
        exact nlc_take_size s k
      have hx : (m = 0 ∧ k = 0) ∨ 1 ≤ m ∧ 1 ≤ k ∧ lineEndI s.data.toList ((m : Int) - 1) = (k : Int) - 1 := by
        cases m with
        | zero =>
          refine .inl ⟨rfl, ?_⟩
          have h1 := startN_of hk
          rw [startN_zero] at h1
          injection h1 with h1
          exact h1.symm
        | succ m' =>
          obtain ⟨k', g1, g2, g3⟩ := line_before hk
          refine .inr ⟨by omega, g2, ?_⟩
          rw [show ((m' + 1 : Nat) : Int) - 1 = m' by omega, lineEnd_of ht g1, g3]
          omega
      clear h0 hk ht hkk hco
      rcases hx with ⟨rfl, rfl⟩ | ⟨hm0, hk1, hee⟩
      · replace HK : Hid (lineStartI s.data.toList 0 = 0) := Lib.hid HK.out
        replace HO : Hid (lineOfI s.data.toList 0 = 0) := Lib.hid HO.out
        replace HC : Hid (columnI s.data.toList 0 = 0) := Lib.hid HC.out
        go_wp2_with fail
        with_reducible refine (implLineStart_any s 0 _ HS.out).mono ?_
        rw [HK.out]
        rintro e w2 ⟨rfl, hb2⟩
        go_wp2_with fail
        with_reducible refine (specLineStart_any s 0 _ HS.out).mono ?_
        rw [HK.out]
        rintro e w3 ⟨rfl, rfl⟩
        go_wp2_with (first | (go_at_call 31; refine (implLineOf_any _ _ _ HS.out).mono ?_; rw [HO.out]; rintro e w' ⟨rfl, rfl⟩) | (go_at_call 41; refine (implColumnOf_any _ _ _ HS.out).mono ?_; rw [HC.out]; rintro e w' ⟨rfl, rfl⟩))
        go_ret
        exact ⟨rfl, bstep hb1 hb2⟩
      · have hm1 : ((m : Int) == 0) = false := by simp; omega
        have HEE := Lib.hid hee
        clear hee
        go_wp2_with fail
        with_reducible refine (implLineStart_any s _ _ HS.out).mono ?_
        rw [HK.out]
        rintro e w2 ⟨rfl, hb2⟩
        go_wp2_with fail
        with_reducible refine (specLineStart_any s _ _ HS.out).mono ?_
        rw [HK.out]
        rintro e w3 ⟨rfl, rfl⟩
        go_wp2_with fail
        with_reducible refine (implLineEnd_any s ((m : Int) - 1) _ HS.out).mono ?_
        rw [HEE.out]
        rintro e w4 ⟨rfl, hb4⟩
        go_wp2_with (first | (go_at_call 31; refine (implLineOf_any _ _ _ HS.out).mono ?_; rw [HO.out]; rintro e w' ⟨rfl, rfl⟩) | (go_at_call 41; refine (implColumnOf_any _ _ _ HS.out).mono ?_; rw [HC.out]; rintro e w' ⟨rfl, rfl⟩))
        go_ret
        exact ⟨rfl, bstep (bstep hb1 hb2) hb4⟩
end Go.Proofs.Ytckhhdhkchcljaa.fnLineStart
