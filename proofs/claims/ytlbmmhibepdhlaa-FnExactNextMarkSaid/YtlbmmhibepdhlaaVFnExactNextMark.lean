/- The walk of the law FnExactNextMark: the call returns true and turns nothing that was there. -/
import Derived.Test.YtlbmmhibepdhlaaW11
import Derived.Test.YtlbmmhibepdhlaaW12
namespace Go.Proofs.Ytlbmmhibepdhlaa.fnExactNextMark
open Go.RowKit
theorem walk (s : ByteArray) (hs : s.size ≤ maxLen) (A : Option Addr) (n c : Nat) (ms : List (Int × Bool)) (hn : n ≤ maxLen) (pl : Int) (_ : (Lit.int .i64 pl).wf = true) (w : World) (hr : Marks w w.heap.size A n ms) :
    Calls Try.prog 11 #[.string s, .slice A n c, .int .i64 pl] w fun e w' => e = .returned (.bool true) ∧ Below w.heap.size w w' := by
  have hs' := hs
  unfold maxLen at hs'
  by_cases h1 : 1048576 < (s.size : Int)
  · go_enter Try.func11, Try.ntmps11
    go_wp2
    go_ret
    exact ⟨rfl, Below.refl _ _⟩
  · by_cases h2 : 1048576 < (n : Int)
    · go_enter Try.func11, Try.ntmps11
      go_wp2_with (go_at_call 31; refine (szMarkS_big _ _ _ _ _ hn (by omega) (by omega) (by omega)).mono ?_; rintro e w' ⟨rfl, rfl⟩)
      go_ret
      exact ⟨rfl, Below.refl _ _⟩
    · go_enter Try.func11, Try.ntmps11
      go_wp2_with (go_at_call 31; refine (szMarkS_ok _ _ _ _ _ (by omega) (by omega)).mono ?_; rintro e w' ⟨rfl, rfl⟩)
      refine (toMarkS_any _ _ _ _ _ (by omega) hr).mono ?_
      rintro e w1 ⟨g1, rfl, ho1, hb1⟩
      have hz1 := hb1.size
      go_wp2_with fail
      refine (specNextMark_any _ _ _ _ _ _ _ hs (by omega) (ho1.marks ho1.lt.2)).mono ?_
      rintro e w1' ⟨rfl, hb1'⟩
      have hbb := bstep hb1 hb1'
      go_wp2_with fail
      refine (toMarkS_any _ _ _ _ _ (by omega) ((hr.below hbb (Nat.le_refl _)).more hbb.size)).mono ?_
      rintro e w2 ⟨g2, rfl, ho2, hb2⟩
      have hz2 := hb2.size
      go_wp2_with fail
      refine (implNextMark_any _ _ _ _ _ _ _ hs (by omega) (ho2.marks ho2.lt.2)).mono ?_
      rintro e w3 ⟨rfl, hb3⟩
      have ho3 := ho2.below hb3
      have hb13 := bstep (bstep hbb hb2) hb3
      go_wp2_with fail
      refine (toMarkS_any _ _ _ _ _ (by omega) ((hr.below hb13 (Nat.le_refl _)).more hb13.size)).mono ?_
      rintro e w4 ⟨g4, rfl, ho4, hb4⟩
      have ho34 := ho3.below hb4
      go_wp2_with fail
      refine (eqMarkS_same _ _ _ _ _ _ _ (by omega) (ho34.marks ho34.lt.2) (ho4.marks ho4.lt.2)).mono ?_
      rintro e w5 ⟨rfl, hb5⟩
      go_wp2
      go_ret
      exact ⟨rfl, bstep (bstep hb13 hb4) hb5⟩
end Go.Proofs.Ytlbmmhibepdhlaa.fnExactNextMark
