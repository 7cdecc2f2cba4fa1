/- The walk of the law FnGapOf: the call returns true and turns nothing that was there. -/
import Derived.Test.YtfifhipndggpoaaD5
import Derived.Test.YtfifhipndggpoaaW4
import Derived.Test.YtfifhipndggpoaaPf
import Derived.Deep.RegionHeld3
namespace Go.Proofs.Ytfifhipndggpoaa.fnGapOf
open Go.RowKit
set_option maxRecDepth 100000 in
set_option maxHeartbeats 800000 in
theorem walk (A : Option Addr) (n c : Nat) (hnc : n ≤ c) (hc : c ≤ maxLen) (w : World) (hb : Byt w w.heap.size A n) :
    Calls Try.prog 6 #[.slice A n c] w fun e w' => e = .returned (.bool true) ∧ Below w.heap.size w w' := by
  have hc' := hc
  unfold maxLen at hc'
  by_cases h : 1048576 < n
  · go_enter Try.func6, Try.ntmps6
    go_wp2
    go_ret
    exact ⟨rfl, Below.refl _ _⟩
  · go_enter Try.func6, Try.ntmps6
    go_wp2_with fail
    refine (DrawGapOf_any _ _ _ _ hb hnc hc).mono ?_
    rintro e w1 ⟨s, p, rfl, hs, hb1⟩
    have hsm : s.size ≤ maxLen := by unfold maxLen; omega
    obtain ⟨X, Y, hG, h1, h0⟩ : ∃ X Y : ByteArray, gapV (gapOfL s.data.toList p) = .agg #[.string X, .string Y] ∧ (placeB s.data.toList p = true → X.size + Y.size ≤ 125 ∧ mk (gapTextL X.data.toList Y.data.toList) = s ∧ (X.size : Int) = p) ∧ (placeB s.data.toList p = false → X = ⟨#[]⟩ ∧ Y = ⟨#[]⟩) := by
      refine ⟨mk (gapOfL s.data.toList p).1, mk (gapOfL s.data.toList p).2, rfl, fun ht => ⟨?_, ?_, ?_⟩, fun ht => ?_⟩
      · have := gapText_of ht
        rw [gapOfL_1 ht]
        simp only [mk_size, List.length_take, List.length_drop]
        have : s.data.toList.length = s.size := rfl
        omega
      · exact congrArg mk (gapText_of ht)
      · exact gapOf_len ht
      · rw [gapOfL_0 ht]
        exact ⟨rfl, rfl⟩
    have HG := Lib.hid hG
    have HS := Lib.hid hsm
    have H1 := Lib.hid h1
    have H0 := Lib.hid h0
    clear hG hsm h1 h0
    go_wp2_with fail
    with_reducible refine (implGapOf_any s p _ HS.out).mono ?_
    rw [HG.out]
    rintro e w2 ⟨rfl, hb2⟩
    have hbw2 := bstep hb1 hb2
    have B3' := B2.new w2 28 (.string X) (.string Y)
    have hbw3 : Below w.heap.size w (w2.alloc (.cells #[.string X, .string Y] 28)) := balloc hbw2 _
    obtain ⟨c0, c1⟩ := B3'.cells
    have hl3 := B3'.lt
    go_wp2_with fail
    generalize w2.alloc (.cells #[.string X, .string Y] 28) = w3 at B3' hbw3 c0 c1 hl3 ⊢
    go_region_held3 (fun w' => w'.cell? ⟨w2.heap.size, 0, none⟩ = some (.string X) ∧ w'.cell? ⟨w2.heap.size, 1, none⟩ = some (.string Y))
      (first
        | go_keep
        | (go_split_ands; exact ⟨(hb4.cell (p := ⟨w2.heap.size, 0, none⟩) hl3).trans c0, (hb4.cell (p := ⟨w2.heap.size, 1, none⟩) hl3).trans c1⟩))
      ((first
        | (go_at_call 27; (with_reducible refine (specGapOf_any s p _ HS.out).mono ?_); rw [HG.out]; rintro e w4 ⟨rfl, hb4⟩)))
    have B4 := B3'.drew.next hb4
    have hbw4 := (bdrew hbw3).trans (hb4.mono hbw3.size)
    clear c0 c1 B3' hbw3 hb4 hl3
    cases ht : placeB s.data.toList p
    · obtain ⟨rfl, rfl⟩ := H0.out ht
      have H := Lib.hid ht
      clear ht
      obtain ⟨c0, c1⟩ := B4.cells
      go_wp2_with (first | (go_at_call 28; refine (placeOk_any _ _ _ HS.out).mono ?_; rw [H.out]; rintro e w' ⟨rfl, rfl⟩) | (go_at_call 18; refine (alive_any _).mono ?_; rintro e w' ⟨rfl, rfl⟩))
      go_ret
      exact ⟨rfl, hbw4⟩
    · obtain ⟨hsz, he, hl⟩ := H1.out ht
      have HE := Lib.hid he
      have HL := Lib.hid hl
      have H := Lib.hid ht
      clear ht he hl
      obtain ⟨c0, c1⟩ := B4.cells
      go_wp2_with (go_at_call 28; refine (placeOk_any _ _ _ HS.out).mono ?_; rw [H.out]; rintro e w' ⟨rfl, rfl⟩)
      with_reducible refine (implGapText_any X Y _ (by omega)).mono ?_
      rw [HE.out]
      rintro e w5 ⟨rfl, hb5⟩
      have B5 := B4.next hb5
      have hbw5 := bstep hbw4 hb5
      clear c0 c1
      obtain ⟨c0, c1⟩ := B5.cells
      have hl := HL.out
      subst hl
      go_wp2
      go_ret
      exact ⟨rfl, hbw5⟩
end Go.Proofs.Ytfifhipndggpoaa.fnGapOf
