/- The walk of the law FnExactApplyChange: the call returns true and turns nothing that was there. -/
import Derived.Test.YtlbmmhibepdhlaaW3
import Derived.Test.YtlbmmhibepdhlaaW6
namespace Go.Proofs.Ytlbmmhibepdhlaa.fnExactApplyChange
open Go.RowKit
theorem walk (s : ByteArray) (hs : s.size ≤ maxLen) (a c : Int) (p : ByteArray) (_ : (Lit.int .i64 a).wf = true) (_ : (Lit.int .i64 c).wf = true) (hp : p.size ≤ maxLen) (w : World) :
    Calls Try.prog 4 #[.string s, .agg #[.int .i64 a, .int .i64 c, .string p]] w fun e w' => e = .returned (.bool true) ∧ Below w.heap.size w w' := by
  have hs' := hs
  unfold maxLen at hs'
  by_cases hs2 : 1048576 < (s.size : Int)
  · go_enter Try.func4, Try.ntmps4
    go_wp2
    go_returns
    exact ⟨rfl, (by repeat (first | exact Below.refl _ _ | assumption | (refine bstep ?_ (by assumption)) | refine balloc ?_ _ | refine bdrew ?_ | refine bdrewN ?_ _ | (refine bset ?_ (by simp) _) | (refine bset ?_ (by simp; omega) _)))⟩
  · by_cases h : 1048576 < (p.size : Int)
    · go_enter Try.func4, Try.ntmps4
      go_wp2_with (go_at_call 18; refine (szChange_big _ _ _ _ _ hp (by omega) (by omega) (by omega)).mono ?_; rintro e w1 ⟨rfl, hb1⟩; obtain ⟨hc1, hf1⟩ := bcell hb1; have hz1 := hb1.size; (try simp at hz1); (try replace hz1 := Nat.lt_of_succ_le hz1); (try have hy1w : w.heap.size < w1.heap.size := by omega); (try have hx1w : w.heap.size + 1 < w1.heap.size := by omega))
      go_returns
      exact ⟨rfl, (by repeat (first | exact Below.refl _ _ | assumption | (refine bstep ?_ (by assumption)) | refine balloc ?_ _ | refine bdrew ?_ | refine bdrewN ?_ _ | (refine bset ?_ (by simp) _) | (refine bset ?_ (by simp; omega) _)))⟩
    · obtain ⟨x, b, hx⟩ : ∃ x b, strBoolV (applyR s.data.toList a c p.data.toList) = .tuple #[.string x, .bool b] := ⟨_, _, rfl⟩
      have HX := Lib.hid hx
      clear hx
      go_enter Try.func4, Try.ntmps4
      go_wp2_with (first | (go_at_call 18; refine (szChange_ok _ _ _ _ _ (by omega) (by omega)).mono ?_; rintro e w1 ⟨rfl, hb1⟩; obtain ⟨hc1, hf1⟩ := bcell hb1; have hz1 := hb1.size; (try simp at hz1); (try replace hz1 := Nat.lt_of_succ_le hz1); (try have hy1w : w.heap.size < w1.heap.size := by omega); (try have hx1w : w.heap.size + 1 < w1.heap.size := by omega)) | (go_at_call 20; refine (toChange_any _ _ _ _).mono ?_; rintro e w2 ⟨rfl, hb2⟩; obtain ⟨hc2, hf2⟩ := bcell hb2; have hz2 := hb2.size; (try simp at hz2); (try replace hz2 := Nat.lt_of_succ_le hz2); (try have hy2w : w.heap.size < w2.heap.size := by omega); (try have hx2w : w.heap.size + 1 < w2.heap.size := by omega)) | (go_at_call 19; refine (specApplyChange_any _ _ _ _ _ (by omega)).mono ?_; rw [HX.out]; rintro e w3 ⟨rfl, hb3⟩; obtain ⟨hc3, hf3⟩ := bcell hb3; have hz3 := hb3.size; (try simp at hz3); (try replace hz3 := Nat.lt_of_succ_le hz3); (try have hy3w : w.heap.size < w3.heap.size := by omega); (try have hx3w : w.heap.size + 1 < w3.heap.size := by omega)) | (go_at_call 21; refine (implApplyChange_any _ _ _ _ _ (by omega)).mono ?_; rw [HX.out]; rintro e w4 ⟨rfl, hb4⟩; obtain ⟨hc4, hf4⟩ := bcell hb4; have hz4 := hb4.size; (try simp at hz4); (try replace hz4 := Nat.lt_of_succ_le hz4); (try have hy4w : w.heap.size < w4.heap.size := by omega); (try have hx4w : w.heap.size + 1 < w4.heap.size := by omega)))
      go_returns
      exact ⟨rfl, (by repeat (first | exact Below.refl _ _ | assumption | (refine bstep ?_ (by assumption)) | refine balloc ?_ _ | refine bdrew ?_ | refine bdrewN ?_ _ | (refine bset ?_ (by simp) _) | (refine bset ?_ (by simp; omega) _)))⟩
end Go.Proofs.Ytlbmmhibepdhlaa.fnExactApplyChange
