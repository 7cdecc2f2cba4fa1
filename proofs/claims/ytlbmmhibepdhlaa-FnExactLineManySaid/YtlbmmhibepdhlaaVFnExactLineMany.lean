/- The walk of the law FnExactLineMany: the call returns true and turns nothing that was there. -/
import Derived.Test.YtlbmmhibepdhlaaW9
namespace Go.Proofs.Ytlbmmhibepdhlaa.fnExactLineMany
open Go.RowKit
theorem walk (s : ByteArray) (hs : s.size ≤ maxLen) (w : World) :
    Calls Try.prog 12 #[.string s] w fun e w' => e = .returned (.bool true) ∧ Below w.heap.size w w' := by
  have hs' := hs
  unfold maxLen at hs'
  by_cases h : 1048576 < (s.size : Int)
  · go_enter Try.func12, Try.ntmps12
    go_wp2
    go_ret
    exact ⟨rfl, Below.refl _ _⟩
  · go_enter Try.func12, Try.ntmps12
    go_wp2_with (first | (go_at_call 42; refine (specLineMany_any _ _ hs).mono ?_; rintro e w' ⟨rfl, rfl⟩) | (go_at_call 43; refine (implLineMany_any _ _ hs).mono ?_; rintro e w' ⟨rfl, rfl⟩))
    go_ret
    exact ⟨rfl, Below.refl _ _⟩
end Go.Proofs.Ytlbmmhibepdhlaa.fnExactLineMany
