/- The walk of the law FnColumnOf: the call returns true and turns nothing that was there. -/
import Derived.Test.YtckhhdhkchcljaaD5
import Derived.Test.YtckhhdhkchcljaaW15
import Derived.Test.YtckhhdhkchcljaaPg
namespace Go.Proofs.Ytckhhdhkchcljaa.fnColumnOf
open Go.RowKit
set_option maxRecDepth 100000 in
set_option maxHeartbeats 1600000 in
theorem walk (A : Option Addr) (n c : Nat) (hnc : n ≤ c) (hc : c ≤ maxLen) (w : World) (hb : Byt w w.heap.size A n) :
    Calls Try.prog 12 #[.slice A n c] w fun e w' => e = .returned (.bool true) ∧ Below w.heap.size w w' := by
  have hc' := hc
  unfold maxLen at hc'
  by_cases h : 1048576 < n
  · go_enter Try.func12, Try.ntmps12
    go_wp2
    go_ret
    exact ⟨rfl, Below.refl _ _⟩
  · go_enter Try.func12, Try.ntmps12
    go_wp2_with fail
    refine (DrawColumnOf_any _ _ _ _ hb hnc hc).mono ?_
    rintro e w1 ⟨s, p, rfl, hs, hb1⟩
    have HS := Lib.hid (show s.size ≤ maxLen by unfold maxLen; omega)
    cases hp : placeB s.data.toList p
    · have H0 := Lib.hid (columnI_0 hp)
      have HP := Lib.hid hp
      clear hp
      go_wp2_with fail
      with_reducible refine (implColumnOf_any s p _ HS.out).mono ?_
      rw [H0.out]
      rintro e w2 ⟨rfl, rfl⟩
      go_wp2_with fail
      with_reducible refine (specColumnOf_any s p _ HS.out).mono ?_
      rw [H0.out]
      rintro e w3 ⟨rfl, rfl⟩
      go_wp2_with (first | (go_at_call 33; refine (placeOk_any _ _ _ HS.out).mono ?_; rw [HP.out]; rintro e w' ⟨rfl, rfl⟩) | (go_at_call 17; refine (alive_any _).mono ?_; rintro e w' ⟨rfl, rfl⟩))
      go_ret
      exact ⟨rfl, hb1⟩
    · obtain ⟨ht, h0, h1⟩ : tvB s.data.toList = true ∧ 0 ≤ p ∧ p ≤ s.size := by
        have h3 := placeB_range hp
        exact ⟨placeB_tv hp, h3.1, h3.2⟩
      obtain ⟨q, rfl⟩ := Int.eq_ofNat_of_zero_le h0
      obtain ⟨hl1, hl2, hl3⟩ := place_line (l := s.data.toList) (p := q) (by show q ≤ s.size; omega)
      obtain ⟨k, hk⟩ : ∃ k, lastS (s.data.toList.take q) = k := ⟨_, rfl⟩
      obtain ⟨m, hm⟩ : ∃ m, nlc (s.data.toList.take q) = m := ⟨_, rfl⟩
      rw [hk, hm] at hl1
      rw [hk] at hl2 hl3
      have HO := Lib.hid (lineOf_in ht hl1 hl2 hl3)
      have hco := columnOf_in ht hl1 hl2 hl3
      have hpa := placeAt_in ht hl1 hl2 hl3
      rw [show (q : Int) - k = ((q - k : Nat) : Int) by omega] at hco hpa
      have HC := Lib.hid hco
      have HA := Lib.hid hpa
      have hq : q - k ≤ q := Nat.sub_le _ _
      generalize q - k = d at HC HA hq
      clear hp ht hk hm hl1 h0 hco hpa
      go_wp2_with fail
      with_reducible refine (implColumnOf_any s q _ HS.out).mono ?_
      rw [HC.out]
      rintro e w2 ⟨rfl, rfl⟩
      go_wp2_with fail
      with_reducible refine (specColumnOf_any s q _ HS.out).mono ?_
      rw [HC.out]
      rintro e w3 ⟨rfl, rfl⟩
      go_wp2_with (go_at_call 31; refine (implLineOf_any _ _ _ HS.out).mono ?_; rw [HO.out]; rintro e w' ⟨rfl, rfl⟩)
      with_reducible refine (implPlaceAt_any s m d _ HS.out).mono ?_
      rw [HA.out]
      rintro e w4 ⟨rfl, hb4⟩
      go_wp2
      go_ret
      exact ⟨ret_bool (by simp <;> omega), bstep hb1 hb4⟩
end Go.Proofs.Ytckhhdhkchcljaa.fnColumnOf
