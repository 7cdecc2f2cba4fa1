/- The walk of the law FnChangeFits: the call returns true and turns nothing that was there. -/
import Derived.Test.YtfifhipndggpoaaD7
import Derived.Test.YtfifhipndggpoaaW5
import Derived.Test.YtfifhipndggpoaaPf
namespace Go.Proofs.Ytfifhipndggpoaa.fnChangeFits
open Go.RowKit
set_option maxRecDepth 100000 in
set_option maxHeartbeats 800000 in
theorem walk (A : Option Addr) (n c : Nat) (hnc : n ≤ c) (hc : c ≤ maxLen) (w : World) (hb : Byt w w.heap.size A n) :
    Calls Try.prog 11 #[.slice A n c] w fun e w' => e = .returned (.bool true) ∧ Below w.heap.size w w' := by
  have hc' := hc
  unfold maxLen at hc'
  by_cases h : 1048576 < n
  · go_enter Try.func11, Try.ntmps11
    go_wp2
    go_ret
    exact ⟨rfl, Below.refl _ _⟩
  · go_enter Try.func11, Try.ntmps11
    go_wp2_with fail
    refine (DrawChangeFits_any _ _ _ _ hb hnc hc).mono ?_
    rintro e w1 ⟨s, a, x, p, rfl, hs, hp, hb1⟩
    have B2 := B3.new w1 44 (.int .i64 a) (.int .i64 x) (.string p)
    have hb2 : Below w.heap.size w (w1.alloc (.cells #[.int .i64 a, .int .i64 x, .string p] 44)) := balloc hb1 _
    obtain ⟨f, hf⟩ : ∃ f, fitsB s.data.toList a x p.data.toList = f := ⟨_, rfl⟩
    have HF := Lib.hid hf
    have hsm : s.size ≤ maxLen := by unfold maxLen; omega
    have hf0 : tvB s.data.toList = false → f = false := fun ht => by rw [← hf]; exact fitsB_no (by simp [cutB, placeB, ht])
    clear hf
    obtain ⟨c0, c1, c2⟩ := B2.cells
    go_wp2_with fail
    generalize w1.alloc (.cells #[.int .i64 a, .int .i64 x, .string p] 44) = w2 at B2 hb2 c0 c1 c2 ⊢
    refine (implChangeFits_any s a x p _ (by omega)).mono ?_
    rw [HF.out]
    rintro e w3 ⟨rfl, hb3⟩
    have B3' := B2.next hb3
    have hbw3 := bstep hb2 hb3
    clear B2 hb2 hb3 c0 c1 c2
    obtain ⟨c0, c1, c2⟩ := B3'.cells
    go_wp2_with fail
    refine (specChangeFits_any s a x p _ (by omega)).mono ?_
    rw [HF.out]
    rintro e w4 ⟨rfl, hb4⟩
    have B4 := B3'.next hb4
    have hbw4 := bstep hbw3 hb4
    clear B3' hbw3 hb4 c0 c1 c2
    obtain ⟨c0, c1, c2⟩ := B4.cells
    cases ht : tvB s.data.toList
    · obtain rfl := hf0 ht
      have H := Lib.hid ht
      clear ht hf0
      go_wp2_with (first | (go_at_call 17; refine (specTextValid_any _ _ hsm).mono ?_; rw [H.out]; rintro e w' ⟨rfl, rfl⟩) | (go_at_call 18; refine (alive_any _).mono ?_; rintro e w' ⟨rfl, rfl⟩))
      go_ret
      exact ⟨rfl, hbw4⟩
    · have H := Lib.hid ht
      clear ht hf0
      have B5 := B3.new w4 44 (.int .i64 ((s.size : Int) + 1)) (.int .i64 x) (.string p)
      have hbw5 : Below w.heap.size w (w4.alloc (.cells #[.int .i64 ((s.size : Int) + 1), .int .i64 x, .string p] 44)) := balloc hbw4 _
      cases f
      all_goals
        go_wp2_with (go_at_call 17; refine (specTextValid_any _ _ hsm).mono ?_; rw [H.out]; rintro e w' ⟨rfl, rfl⟩)
        refine (implChangeFits_any s s.size 0 ⟨#[]⟩ _ (by rw [show (⟨#[]⟩ : ByteArray).size = 0 from rfl]; omega)).mono ?_
        rw [show fitsB s.data.toList (s.size : Int) 0 (⟨#[]⟩ : ByteArray).data.toList = true from fitsB_end H.out]
        rintro e w6 ⟨rfl, hb6⟩
        have B6 := B5.next hb6
        have hbw6 := bstep hbw5 hb6
        obtain ⟨d0, d1, d2⟩ := B6.cells
        go_wp2_with fail
        refine (implChangeFits_any s ((s.size : Int) + 1) x p _ (by omega)).mono ?_
        rw [show fitsB s.data.toList ((s.size : Int) + 1) x p.data.toList = false from fitsB_behind]
        rintro e w7 ⟨rfl, hb7⟩
        go_wp2
        go_ret
        exact ⟨rfl, bstep hbw6 hb7⟩
end Go.Proofs.Ytfifhipndggpoaa.fnChangeFits
