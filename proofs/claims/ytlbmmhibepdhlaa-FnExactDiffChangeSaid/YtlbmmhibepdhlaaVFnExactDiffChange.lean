/- The walk of the law FnExactDiffChange: the call returns true and turns nothing that was there. -/
import Derived.Test.YtlbmmhibepdhlaaW3
import Derived.Test.YtlbmmhibepdhlaaW8
namespace Go.Proofs.Ytlbmmhibepdhlaa.fnExactDiffChange
open Go.RowKit
theorem walk (a : ByteArray) (ha : a.size ≤ maxLen) (b : ByteArray) (hb : b.size ≤ maxLen) (w : World) :
    Calls Try.prog 3 #[.string a, .string b] w fun e w' => e = .returned (.bool true) ∧ Below w.heap.size w w' := by
  have ha' := ha
  have hb' := hb
  unfold maxLen at ha' hb'
  by_cases h1 : 1048576 < (a.size : Int)
  · go_enter Try.func3, Try.ntmps3
    go_wp2
    go_returns
    exact ⟨rfl, (by repeat (first | exact Below.refl _ _ | assumption | (refine bstep ?_ (by assumption)) | refine balloc ?_ _ | refine bdrew ?_ | refine bdrewN ?_ _ | (refine bset ?_ (by simp) _) | (refine bset ?_ (by simp; omega) _)))⟩
  · by_cases h2 : 1048576 < (b.size : Int)
    · go_enter Try.func3, Try.ntmps3
      go_wp2
      go_returns
      exact ⟨rfl, (by repeat (first | exact Below.refl _ _ | assumption | (refine bstep ?_ (by assumption)) | refine balloc ?_ _ | refine bdrew ?_ | refine bdrewN ?_ _ | (refine bset ?_ (by simp) _) | (refine bset ?_ (by simp; omega) _)))⟩
    · obtain ⟨x, y, z, hx⟩ : ∃ x y z, changeV (diffR a.data.toList b.data.toList) = .agg #[.int .i64 x, .int .i64 y, .string z] := ⟨_, _, _, rfl⟩
      have HX := Lib.hid hx
      clear hx
      go_enter Try.func3, Try.ntmps3
      go_wp2_with (first | (go_at_call 15; refine (specDiffChange_any _ _ _ ha hb).mono ?_; rw [HX.out]; rintro e w1 ⟨rfl, hb1⟩; obtain ⟨hc1, hf1⟩ := bcell hb1; have hz1 := hb1.size; (try simp at hz1); (try replace hz1 := Nat.lt_of_succ_le hz1); (try have hy1w : w.heap.size < w1.heap.size := by omega); (try have hx1w : w.heap.size + 1 < w1.heap.size := by omega)) | (go_at_call 16; refine (implDiffChange_any _ _ _ ha hb).mono ?_; rw [HX.out]; rintro e w2 ⟨rfl, hb2⟩; obtain ⟨hc2, hf2⟩ := bcell hb2; have hz2 := hb2.size; (try simp at hz2); (try replace hz2 := Nat.lt_of_succ_le hz2); (try have hy2w : w.heap.size < w2.heap.size := by omega); (try have hx2w : w.heap.size + 1 < w2.heap.size := by omega); (try have hy2w1 : w1.heap.size < w2.heap.size := by omega); (try have hx2w1 : w1.heap.size + 1 < w2.heap.size := by omega)) | (go_at_call 17; refine (eqChange_same _ _ _ _).mono ?_; rintro e w3 ⟨rfl, hb3⟩; obtain ⟨hc3, hf3⟩ := bcell hb3; have hz3 := hb3.size; (try simp at hz3); (try replace hz3 := Nat.lt_of_succ_le hz3); (try have hy3w : w.heap.size < w3.heap.size := by omega); (try have hx3w : w.heap.size + 1 < w3.heap.size := by omega)))
      go_returns
      exact ⟨rfl, (by repeat (first | exact Below.refl _ _ | assumption | (refine bstep ?_ (by assumption)) | refine balloc ?_ _ | refine bdrew ?_ | refine bdrewN ?_ _ | (refine bset ?_ (by simp) _) | (refine bset ?_ (by simp; omega) _)))⟩
end Go.Proofs.Ytlbmmhibepdhlaa.fnExactDiffChange
