/- The walk of the law FnGapValid: the call returns true and turns nothing that was there. -/
import Derived.Test.YtfifhipndggpoaaD5
import Derived.Test.YtfifhipndggpoaaW4
import Derived.Test.YtfifhipndggpoaaPf
namespace Go.Proofs.Ytfifhipndggpoaa.fnGapValid
open Go.RowKit
set_option maxRecDepth 100000 in
set_option maxHeartbeats 800000 in
theorem walk (A : Option Addr) (n c : Nat) (hnc : n ≤ c) (hc : c ≤ maxLen) (w : World) (hb : Byt w w.heap.size A n) :
    Calls Try.prog 4 #[.slice A n c] w fun e w' => e = .returned (.bool true) ∧ Below w.heap.size w w' := by
  have hc' := hc
  unfold maxLen at hc'
  by_cases h : 1048576 < n
  · go_enter Try.func4, Try.ntmps4
    go_wp2
    go_ret
    exact ⟨rfl, Below.refl _ _⟩
  · go_enter Try.func4, Try.ntmps4
    go_wp2_with fail
    refine (DrawGapValid_any _ _ _ _ hb hnc hc).mono ?_
    rintro e w1 ⟨a, b, rfl, hs, hb1⟩
    have B2 := B2.new w1 28 (.string a) (.string b)
    have hb2 : Below w.heap.size w (w1.alloc (.cells #[.string a, .string b] 28)) := balloc hb1 _
    obtain ⟨f, hf⟩ : ∃ f, tvB (a.data.toList ++ b.data.toList) = f := ⟨_, rfl⟩
    have HF := Lib.hid hf
    have H1 := Lib.hid (show tvB ((a ++ b : ByteArray).data.toList ++ (⟨#[]⟩ : ByteArray).data.toList) = f by rw [append_mk]; exact (congrArg tvB (List.append_nil _)).trans hf)
    have H2 := Lib.hid (show tvB ((⟨#[]⟩ : ByteArray).data.toList ++ (a ++ b : ByteArray).data.toList) = f by rw [append_mk]; exact hf)
    have H3 := Lib.hid (show tvB (a.data.toList ++ (b ++ ⟨#[9]⟩ : ByteArray).data.toList) = false by rw [append_mk]; show tvB (a.data.toList ++ (b.data.toList ++ [9])) = false; rw [← List.append_assoc]; exact tvB_nine _ [])
    have e0 : (⟨#[]⟩ : ByteArray).size = 0 := rfl
    have e9 : (⟨#[9]⟩ : ByteArray).size = 1 := rfl
    have E1 := Lib.hid (show (a ++ b : ByteArray).size = a.size + b.size from ByteArray.size_append)
    have E2 := Lib.hid (show (b ++ ⟨#[9]⟩ : ByteArray).size = b.size + 1 by rw [ByteArray.size_append, e9])
    have E0 := Lib.hid e0
    clear hf e0 e9
    obtain ⟨c0, c1⟩ := B2.cells
    go_wp2_with fail
    generalize w1.alloc (.cells #[.string a, .string b] 28) = w2 at B2 hb2 c0 c1 ⊢
    refine (implGapValid_any a b _ (by omega)).mono ?_
    rw [HF.out]
    rintro e w3 ⟨rfl, hb3⟩
    have B3' := B2.next hb3
    have hbw3 := bstep hb2 hb3
    clear B2 hb2 hb3 c0 c1
    obtain ⟨c0, c1⟩ := B3'.cells
    go_wp2_with fail
    refine (specGapValid_any a b _ (by omega)).mono ?_
    rw [HF.out]
    rintro e w4 ⟨rfl, hb4⟩
    have B4 := B3'.next hb4
    have hbw4 := bstep hbw3 hb4
    clear B3' hbw3 hb4 c0 c1
    obtain ⟨c0, c1⟩ := B4.cells
    cases f
    all_goals
      go_wp2_with fail
      refine (implGapValid_any (a ++ b) ⟨#[]⟩ _ (by rw [E1.out, E0.out]; omega)).mono ?_
      rw [H1.out]
      rintro e w5 ⟨rfl, hb5⟩
      have B5 := B4.next hb5
      have hbw5 := bstep hbw4 hb5
      clear B4 hbw4 hb5 c0 c1
      obtain ⟨c0, c1⟩ := B5.cells
      go_wp2_with fail
      refine (implGapValid_any ⟨#[]⟩ (a ++ b) _ (by rw [E1.out, E0.out]; omega)).mono ?_
      rw [H2.out]
      rintro e w6 ⟨rfl, hb6⟩
      have B6 := B5.next hb6
      have hbw6 := bstep hbw5 hb6
      clear B5 hbw5 hb6 c0 c1
      obtain ⟨c0, c1⟩ := B6.cells
      go_wp2_with fail
      with_reducible refine (implGapValid_any a (b ++ ⟨#[9]⟩) _ (by rw [E2.out]; omega)).mono ?_
      rw [H3.out]
      rintro e w7 ⟨rfl, hb7⟩
      have hbw7 := bstep hbw6 hb7
      go_wp2_with (go_at_call 18; refine (alive_any _).mono ?_; rintro e w' ⟨rfl, rfl⟩)
      go_ret
      exact ⟨rfl, hbw7⟩
end Go.Proofs.Ytfifhipndggpoaa.fnGapValid
