/- The walk of the law FnExactConstants: the call returns true and turns nothing that was there. -/
import Derived.Test.YtdldnkhmpnknbaaW1
namespace Go.Proofs.Ytdldnkhmpnknbaa.fnExactConstants
open Go.RowKit
theorem walk (w : World) : Calls Try.prog 3 #[] w fun e w' => e = .returned (.bool true) ∧ Below w.heap.size w w' := by
  go_enter Try.func3, Try.ntmps3
  go_wp2
  go_ret
  exact ⟨rfl, Below.refl _ _⟩
end Go.Proofs.Ytdldnkhmpnknbaa.fnExactConstants
