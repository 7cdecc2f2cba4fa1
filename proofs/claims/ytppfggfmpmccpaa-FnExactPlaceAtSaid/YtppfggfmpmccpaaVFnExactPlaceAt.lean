/- The walk of the law FnExactPlaceAt: the call returns true and turns nothing that was there. -/
import Derived.Test.YtppfggfmpmccpaaW15
namespace Go.Proofs.Ytppfggfmpmccpaa.fnExactPlaceAt
open Go.RowKit
theorem walk (s : ByteArray) (hs : s.size ≤ maxLen) (n0 : Int) (_ : (Lit.int .i64 n0).wf = true) (c0 : Int) (_ : (Lit.int .i64 c0).wf = true) (w : World) :
    Calls Try.prog 8 #[.string s, .int .i64 n0, .int .i64 c0] w fun e w' => e = .returned (.bool true) ∧ Below w.heap.size w w' := by
  have hs' := hs
  unfold maxLen at hs'
  by_cases h : 1048576 < (s.size : Int)
  · go_enter Try.func8, Try.ntmps8
    go_wp2
    go_ret
    exact ⟨rfl, Below.refl _ _⟩
  · go_enter Try.func8, Try.ntmps8
    go_wp2_with (first | (go_at_call 26; refine (specPlaceAt_any _ _ _ _ hs).mono ?_; rintro e w' ⟨rfl, rfl⟩) | (go_at_call 27; refine (implPlaceAt_any _ _ _ _ hs).mono ?_; rintro e w1 ⟨rfl, hb1⟩; obtain ⟨hc1, hf1⟩ := bcell hb1; have hz1 := hb1.size; (try simp at hz1); (try replace hz1 := Nat.lt_of_succ_le hz1); (try have hy1w : w.heap.size < w1.heap.size := by omega); (try have hx1w : w.heap.size + 1 < w1.heap.size := by omega)))
    go_ret
    exact ⟨rfl, hb1⟩
end Go.Proofs.Ytppfggfmpmccpaa.fnExactPlaceAt
