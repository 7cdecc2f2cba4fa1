/- The walk of the law FnExactLineOf: the call returns true and turns nothing that was there. -/
import Derived.Test.YtlbmmhibepdhlaaW9
namespace Go.Proofs.Ytlbmmhibepdhlaa.fnExactLineOf
open Go.RowKit
theorem walk (s : ByteArray) (hs : s.size ≤ maxLen) (n0 : Int) (_ : (Lit.int .i64 n0).wf = true) (w : World) :
    Calls Try.prog 13 #[.string s, .int .i64 n0] w fun e w' => e = .returned (.bool true) ∧ Below w.heap.size w w' := by
  have hs' := hs
  unfold maxLen at hs'
  by_cases h : 1048576 < (s.size : Int)
  · go_enter Try.func13, Try.ntmps13
    go_wp2
    go_ret
    exact ⟨rfl, Below.refl _ _⟩
  · go_enter Try.func13, Try.ntmps13
    go_wp2_with (first | (go_at_call 44; refine (specLineOf_any _ _ _ hs).mono ?_; rintro e w' ⟨rfl, rfl⟩) | (go_at_call 45; refine (implLineOf_any _ _ _ hs).mono ?_; rintro e w' ⟨rfl, rfl⟩))
    go_ret
    exact ⟨rfl, Below.refl _ _⟩
end Go.Proofs.Ytlbmmhibepdhlaa.fnExactLineOf
