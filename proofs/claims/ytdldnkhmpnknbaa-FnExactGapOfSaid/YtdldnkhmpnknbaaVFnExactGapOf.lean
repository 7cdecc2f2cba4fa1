/- The walk of the law FnExactGapOf: the call returns true and turns nothing that was there. -/
import Derived.Test.YtdldnkhmpnknbaaW2
namespace Go.Proofs.Ytdldnkhmpnknbaa.fnExactGapOf
open Go.RowKit
theorem walk (s : ByteArray) (hs : s.size ≤ maxLen) (p : Int) (_ : (Lit.int .i64 p).wf = true) (w : World) : Calls Try.prog 7 #[.string s, .int .i64 p] w fun e w' => e = .returned (.bool true) ∧ Below w.heap.size w w' := by
  have hs' := hs
  unfold maxLen at hs'
  by_cases h : 1048576 < s.size
  · go_enter Try.func7, Try.ntmps7
    go_wp2
    go_ret
    exact ⟨rfl, Below.refl _ _⟩
  · obtain ⟨x, y, hxy⟩ : ∃ x y, gapV (gapOfL s.data.toList p) = .agg #[.string x, .string y] := ⟨_, _, rfl⟩
    have HX := Lib.hid hxy
    clear hxy
    go_enter Try.func7, Try.ntmps7
    go_wp2_with (first | (go_at_call 20; refine (specGapOf_any _ _ _ hs).mono ?_; rw [HX.out]; rintro e w1 ⟨rfl, hb1⟩; obtain ⟨hc1, hf1⟩ := bcell hb1; have hz1 := hb1.size; (try simp at hz1); (try replace hz1 := Nat.lt_of_succ_le hz1); (try have hy1w : w.heap.size < w1.heap.size := by omega)) | (go_at_call 21; refine (implGapOf_any _ _ _ hs).mono ?_; rw [HX.out]; rintro e w2 ⟨rfl, hb2⟩; obtain ⟨hc2, hf2⟩ := bcell hb2; have hz2 := hb2.size; (try simp at hz2); (try replace hz2 := Nat.lt_of_succ_le hz2); (try have hy2w : w.heap.size < w2.heap.size := by omega)) | (go_at_call 22; refine (eqGap_same _ _ _).mono ?_; rintro e w3 ⟨rfl, hb3⟩; obtain ⟨hc3, hf3⟩ := bcell hb3; have hz3 := hb3.size; (try simp at hz3); (try replace hz3 := Nat.lt_of_succ_le hz3); (try have hy3w : w.heap.size < w3.heap.size := by omega)))
    go_ret
    exact ⟨rfl, (by repeat (first | exact Below.refl _ _ | assumption | (refine bstep ?_ (by assumption)) | refine balloc ?_ _ | refine bdrew ?_ | refine bdrewN ?_ _ | (refine bset ?_ (by simp) _) | (refine bset ?_ (by simp; omega) _)))⟩
end Go.Proofs.Ytdldnkhmpnknbaa.fnExactGapOf
