/- The walk of the law FnExactColumnOf: the call returns true and turns nothing that was there. -/
import Derived.Test.YtlbmmhibepdhlaaW9
namespace Go.Proofs.Ytlbmmhibepdhlaa.fnExactColumnOf
open Go.RowKit
theorem walk (s : ByteArray) (hs : s.size ≤ maxLen) (n0 : Int) (_ : (Lit.int .i64 n0).wf = true) (w : World) :
    Calls Try.prog 10 #[.string s, .int .i64 n0] w fun e w' => e = .returned (.bool true) ∧ Below w.heap.size w w' := by
  have hs' := hs
  unfold maxLen at hs'
  by_cases h : 1048576 < (s.size : Int)
  · go_enter Try.func10, Try.ntmps10
    go_wp2
    go_ret
    exact ⟨rfl, Below.refl _ _⟩
  · go_enter Try.func10, Try.ntmps10
    go_wp2_with (first | (go_at_call 38; refine (specColumnOf_any _ _ _ hs).mono ?_; rintro e w' ⟨rfl, rfl⟩) | (go_at_call 39; refine (implColumnOf_any _ _ _ hs).mono ?_; rintro e w' ⟨rfl, rfl⟩))
    go_ret
    exact ⟨rfl, Below.refl _ _⟩
end Go.Proofs.Ytlbmmhibepdhlaa.fnExactColumnOf
