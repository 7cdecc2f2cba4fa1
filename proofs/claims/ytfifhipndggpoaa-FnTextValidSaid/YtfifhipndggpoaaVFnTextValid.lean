/- The walk of the law FnTextValid: the call returns true and turns nothing that was there. -/
import Derived.Test.YtfifhipndggpoaaD3
import Derived.Test.YtfifhipndggpoaaPf
namespace Go.Proofs.Ytfifhipndggpoaa.fnTextValid
open Go.RowKit
set_option maxHeartbeats 800000 in
theorem walk (A : Option Addr) (n c : Nat) (hnc : n ≤ c) (hc : c ≤ maxLen) (w : World) (hb : Byt w w.heap.size A n) :
    Calls Try.prog 3 #[.slice A n c] w fun e w' => e = .returned (.bool true) ∧ Below w.heap.size w w' := by
  have hc' := hc
  unfold maxLen at hc'
  by_cases h : 1048576 < n
  · go_enter Try.func3, Try.ntmps3
    go_wp2
    go_ret
    exact ⟨rfl, Below.refl _ _⟩
  · go_enter Try.func3, Try.ntmps3
    go_wp2_with fail
    refine (DrawTextValid_any _ _ _ _ hb hnc hc).mono ?_
    rintro e w1 ⟨s, rfl, hs, hb1⟩
    have hsm : s.size ≤ maxLen := by unfold maxLen; omega
    have hs9 : (s ++ ⟨#[9]⟩ : ByteArray).size ≤ maxLen := by rw [ByteArray.size_append, show (⟨#[9]⟩ : ByteArray).size = 1 from rfl]; unfold maxLen; omega
    have H9 := Lib.hid (show tvB (s ++ ⟨#[9]⟩ : ByteArray).data.toList = false by rw [append_mk]; exact tvB_nine s.data.toList [])
    have HM := Lib.hid hsm
    have H99 := Lib.hid hs9
    clear hsm hs9
    cases ht : tvB s.data.toList
    · have H := Lib.hid ht
      clear ht
      go_wp2_with fail
      refine (implTextValid_no _ _ HM.out H.out).mono ?_
      rintro e w' ⟨rfl, rfl⟩
      go_wp2_with (go_at_call 17; refine (specTextValid_any _ _ HM.out).mono ?_; rw [H.out]; rintro e w' ⟨rfl, rfl⟩)
      refine (implTextValid_no _ _ H99.out H9.out).mono ?_
      rintro e w' ⟨rfl, rfl⟩
      go_wp2_with fail
      refine (implTextValid_yes _ _ tvB_nil).mono ?_
      rintro e w' ⟨rfl, rfl⟩
      go_wp2_with (go_at_call 18; refine (alive_any _).mono ?_; rintro e w' ⟨rfl, rfl⟩)
      go_ret
      exact ⟨rfl, hb1⟩
    · have H := Lib.hid ht
      clear ht
      go_wp2_with fail
      refine (implTextValid_yes _ _ H.out).mono ?_
      rintro e w' ⟨rfl, rfl⟩
      go_wp2_with (go_at_call 17; refine (specTextValid_any _ _ HM.out).mono ?_; rw [H.out]; rintro e w' ⟨rfl, rfl⟩)
      refine (implTextValid_yes _ _ (by rw [extract_data]; exact tvB_take _ (tvB_drop _ H.out))).mono ?_
      rintro e w' ⟨rfl, rfl⟩
      go_wp2_with fail
      refine (implTextValid_no _ _ H99.out H9.out).mono ?_
      rintro e w' ⟨rfl, rfl⟩
      go_wp2_with fail
      refine (implTextValid_yes _ _ tvB_nil).mono ?_
      rintro e w' ⟨rfl, rfl⟩
      go_wp2_with (go_at_call 18; refine (alive_any _).mono ?_; rintro e w' ⟨rfl, rfl⟩)
      go_ret
      exact ⟨rfl, hb1⟩
end Go.Proofs.Ytfifhipndggpoaa.fnTextValid
