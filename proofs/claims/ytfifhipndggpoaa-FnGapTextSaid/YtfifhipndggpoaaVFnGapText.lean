/- The walk of the law FnGapText: the call returns true and turns nothing that was there. -/
import Derived.Test.YtfifhipndggpoaaD5
import Derived.Test.YtfifhipndggpoaaW4
import Derived.Test.YtfifhipndggpoaaPf
import Derived.Deep.RegionHeld3
namespace Go.Proofs.Ytfifhipndggpoaa.fnGapText
open Go.RowKit
set_option maxRecDepth 100000 in
set_option maxHeartbeats 800000 in
theorem walk (A : Option Addr) (n c : Nat) (hnc : n ≤ c) (hc : c ≤ maxLen) (w : World) (hb : Byt w w.heap.size A n) :
    Calls Try.prog 5 #[.slice A n c] w fun e w' => e = .returned (.bool true) ∧ Below w.heap.size w w' := by
  have hc' := hc
  unfold maxLen at hc'
  by_cases h : 1048576 < n
  · go_enter Try.func5, Try.ntmps5
    go_wp2
    go_ret
    exact ⟨rfl, Below.refl _ _⟩
  · go_enter Try.func5, Try.ntmps5
    go_wp2_with fail
    refine (DrawGapText_any _ _ _ _ hb hnc hc).mono ?_
    rintro e w1 ⟨a, b, rfl, hs, hb1⟩
    have B2 := B2.new w1 28 (.string a) (.string b)
    have hb2 : Below w.heap.size w (w1.alloc (.cells #[.string a, .string b] 28)) := balloc hb1 _
    obtain ⟨c0, c1⟩ := B2.cells
    go_wp2_with fail
    generalize w1.alloc (.cells #[.string a, .string b] 28) = w2 at B2 hb2 c0 c1 ⊢
    with_reducible refine (implGapText_any a b _ (by omega)).mono ?_
    rintro e w3 ⟨rfl, hb3⟩
    have B3' := B2.next hb3
    have hbw3 := bstep hb2 hb3
    clear B2 hb2 hb3 c0 c1
    obtain ⟨c0, c1⟩ := B3'.cells
    go_wp2_with fail
    with_reducible refine (specGapText_any a b _ (by omega)).mono ?_
    rintro e w4 ⟨rfl, hb4⟩
    have B4 := B3'.next hb4
    have hbw4 := bstep hbw3 hb4
    clear B3' hbw3 hb4 c0 c1
    obtain ⟨c0, c1⟩ := B4.cells
    cases ht : tvB (a.data.toList ++ b.data.toList)
    · have H := Lib.hid ht
      have hg : mk (gapTextL a.data.toList b.data.toList) = ⟨#[]⟩ := gapTextL_bad ht
      clear ht
      go_wp2_with fail
      with_reducible refine (specGapValid_any a b _ (by omega)).mono ?_
      rw [H.out]
      rintro e w5 ⟨rfl, hb5⟩
      have hbw5 := bstep hbw4 hb5
      go_wp2_with (go_at_call 18; refine (alive_any _).mono ?_; rintro e w' ⟨rfl, rfl⟩)
      go_ret
      exact ⟨rfl, hbw5⟩
    · have H := Lib.hid ht
      have hg : gapTextL a.data.toList b.data.toList = a.data.toList ++ b.data.toList := gapTextL_good ht
      rw [hg]
      clear hg ht
      go_wp2_with fail
      with_reducible refine (specGapValid_any a b _ (by omega)).mono ?_
      rw [H.out]
      rintro e w5 ⟨rfl, hb5⟩
      have B5 := B4.next hb5
      have hbw5 := bstep hbw4 hb5
      clear B4 hbw4 hb5 c0 c1
      obtain ⟨c0, c1⟩ := B5.cells
      have hl5 := B5.lt
      have GE := Lib.hid (show gapV (gapOfL (mk (a.data.toList ++ b.data.toList)).data.toList (a.size : Int)) = .agg #[.string a, .string b] from congrArg gapV (gapOfL_join H.out))
      go_wp2_with fail
      go_region_held3 (fun w' => w'.cell? ⟨w1.heap.size, 0, none⟩ = some (.string a) ∧ w'.cell? ⟨w1.heap.size, 1, none⟩ = some (.string b))
        (first
          | go_keep
          | (go_split_ands; exact ⟨(hb6.cell (p := ⟨w1.heap.size, 0, none⟩) hl5).trans c0, (hb6.cell (p := ⟨w1.heap.size, 1, none⟩) hl5).trans c1⟩))
        ((first
          | (go_at_call 25; (with_reducible refine (implGapOf_any (mk (a.data.toList ++ b.data.toList)) (a.size : Int) _ (by rw [mk_size, List.length_append]; simp; unfold maxLen; omega)).mono ?_); rw [GE.out]; rintro e w6 ⟨rfl, hb6⟩)))
      go_wp2
      go_ret
      exact ⟨rfl, (bdrew hbw5).trans (hb6.mono hbw5.size)⟩
end Go.Proofs.Ytfifhipndggpoaa.fnGapText
