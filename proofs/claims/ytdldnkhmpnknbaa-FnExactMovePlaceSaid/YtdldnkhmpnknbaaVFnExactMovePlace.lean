/- The walk of the law FnExactMovePlace: the call returns true and turns nothing that was there. -/
import Derived.Test.YtdldnkhmpnknbaaW3
namespace Go.Proofs.Ytdldnkhmpnknbaa.fnExactMovePlace
open Go.RowKit
theorem walk (a c : Int) (p : ByteArray) (_ : (Lit.int .i64 a).wf = true) (_ : (Lit.int .i64 c).wf = true) (hp : p.size ≤ maxLen) (pl : Int) (_ : (Lit.int .i64 pl).wf = true) (b : Bool) (w : World) :
    Calls Try.prog 5 #[.agg #[.int .i64 a, .int .i64 c, .string p], .int .i64 pl, .bool b] w fun e w' => e = .returned (.bool true) ∧ Below w.heap.size w w' := by
  by_cases h : 1048576 < p.size
  · go_enter Try.func5, Try.ntmps5
    go_wp2_with (go_at_call 12; refine (szChange_big _ _ _ _ _ hp (by omega) (by omega) (by omega)).mono ?_; rintro e w1 ⟨rfl, hb1⟩; obtain ⟨hc1, hf1⟩ := bcell hb1; have hz1 := hb1.size; (try simp at hz1); (try replace hz1 := Nat.lt_of_succ_le hz1); (try have hy1w : w.heap.size < w1.heap.size := by omega))
    go_returns
    exact ⟨rfl, (by repeat (first | exact Below.refl _ _ | assumption | (refine bstep ?_ (by assumption)) | refine balloc ?_ _ | refine bdrew ?_ | refine bdrewN ?_ _ | (refine bset ?_ (by simp) _) | (refine bset ?_ (by simp; omega) _)))⟩
  · go_enter Try.func5, Try.ntmps5
    go_wp2_with (first | (go_at_call 12; refine (szChange_ok _ _ _ _ _ (by omega) (by omega)).mono ?_; rintro e w1 ⟨rfl, hb1⟩; obtain ⟨hc1, hf1⟩ := bcell hb1; have hz1 := hb1.size; (try simp at hz1); (try replace hz1 := Nat.lt_of_succ_le hz1); (try have hy1w : w.heap.size < w1.heap.size := by omega)) | (go_at_call 14; refine (toChange_any _ _ _ _).mono ?_; rintro e w2 ⟨rfl, hb2⟩; obtain ⟨hc2, hf2⟩ := bcell hb2; have hz2 := hb2.size; (try simp at hz2); (try replace hz2 := Nat.lt_of_succ_le hz2); (try have hy2w : w.heap.size < w2.heap.size := by omega)) | (go_at_call 13; refine (specMovePlace_any _ _ _ _ _ _ hp).mono ?_; rintro e w3 ⟨rfl, hb3⟩; obtain ⟨hc3, hf3⟩ := bcell hb3; have hz3 := hb3.size; (try simp at hz3); (try replace hz3 := Nat.lt_of_succ_le hz3); (try have hy3w : w.heap.size < w3.heap.size := by omega)) | (go_at_call 15; refine (implMovePlace_any _ _ _ _ _ _ hp).mono ?_; rintro e w4 ⟨rfl, hb4⟩; obtain ⟨hc4, hf4⟩ := bcell hb4; have hz4 := hb4.size; (try simp at hz4); (try replace hz4 := Nat.lt_of_succ_le hz4); (try have hy4w : w.heap.size < w4.heap.size := by omega)))
    go_returns
    exact ⟨rfl, (by repeat (first | exact Below.refl _ _ | assumption | (refine bstep ?_ (by assumption)) | refine balloc ?_ _ | refine bdrew ?_ | refine bdrewN ?_ _ | (refine bset ?_ (by simp) _) | (refine bset ?_ (by simp; omega) _)))⟩
end Go.Proofs.Ytdldnkhmpnknbaa.fnExactMovePlace
