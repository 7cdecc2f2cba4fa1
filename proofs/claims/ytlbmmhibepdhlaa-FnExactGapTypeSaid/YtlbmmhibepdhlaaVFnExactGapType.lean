/- The walk of the law FnExactGapType: the call returns true and turns nothing that was there. -/
import Derived.Test.YtlbmmhibepdhlaaW7
namespace Go.Proofs.Ytlbmmhibepdhlaa.fnExactGapType
open Go.RowKit
theorem walk (a b : ByteArray) (ha : a.size ≤ maxLen) (hb : b.size ≤ maxLen) (p : ByteArray) (hp : p.size ≤ maxLen) (w : World) :
    Calls Try.prog 6 #[.agg #[.string a, .string b], .string p] w fun e w' => e = .returned (.bool true) ∧ Below w.heap.size w w' := by
  have hp' := hp
  unfold maxLen at hp'
  by_cases h2 : 1048576 < (p.size : Int)
  · go_enter Try.func6, Try.ntmps6
    go_wp2
    go_returns
    exact ⟨rfl, (by repeat (first | exact Below.refl _ _ | assumption | (refine bstep ?_ (by assumption)) | refine balloc ?_ _ | refine bdrew ?_ | refine bdrewN ?_ _ | (refine bset ?_ (by simp) _) | (refine bset ?_ (by simp; omega) _)))⟩
  · by_cases h : 1048576 < (a.size : Int) + b.size
    · go_enter Try.func6, Try.ntmps6
      go_wp2_with (go_at_call 22; refine (szGap_big _ _ _ _ ha hb (by omega) (by omega) (by omega)).mono ?_; rintro e w1 ⟨rfl, hb1⟩; obtain ⟨hc1, hf1⟩ := bcell hb1; have hz1 := hb1.size; (try simp at hz1); (try replace hz1 := Nat.lt_of_succ_le hz1); (try have hy1w : w.heap.size < w1.heap.size := by omega); (try have hx1w : w.heap.size + 1 < w1.heap.size := by omega))
      go_returns
      exact ⟨rfl, (by repeat (first | exact Below.refl _ _ | assumption | (refine bstep ?_ (by assumption)) | refine balloc ?_ _ | refine bdrew ?_ | refine bdrewN ?_ _ | (refine bset ?_ (by simp) _) | (refine bset ?_ (by simp; omega) _)))⟩
    · obtain ⟨x, y, z, hx⟩ : ∃ x y z, (Value.tuple #[gapV (typeR a.data.toList b.data.toList p.data.toList).1, .bool (typeR a.data.toList b.data.toList p.data.toList).2]) = .tuple #[.agg #[.string x, .string y], .bool z] := ⟨_, _, _, rfl⟩
      have HX := Lib.hid hx
      clear hx
      go_enter Try.func6, Try.ntmps6
      go_wp2_with (first | (go_at_call 22; refine (szGap_ok _ _ _ _ (by omega) (by omega)).mono ?_; rintro e w1 ⟨rfl, hb1⟩; obtain ⟨hc1, hf1⟩ := bcell hb1; have hz1 := hb1.size; (try simp at hz1); (try replace hz1 := Nat.lt_of_succ_le hz1); (try have hy1w : w.heap.size < w1.heap.size := by omega); (try have hx1w : w.heap.size + 1 < w1.heap.size := by omega)) | (go_at_call 24; refine (toGap_any _ _ _).mono ?_; rintro e w2 ⟨rfl, hb2⟩; obtain ⟨hc2, hf2⟩ := bcell hb2; have hz2 := hb2.size; (try simp at hz2); (try replace hz2 := Nat.lt_of_succ_le hz2); (try have hy2w : w.heap.size < w2.heap.size := by omega); (try have hx2w : w.heap.size + 1 < w2.heap.size := by omega)) | (go_at_call 27; refine (specGapType_any _ _ _ _ (by omega)).mono ?_; rw [HX.out]; rintro e w3 ⟨rfl, hb3⟩; obtain ⟨hc3, hf3⟩ := bcell hb3; have hz3 := hb3.size; (try simp at hz3); (try replace hz3 := Nat.lt_of_succ_le hz3); (try have hy3w : w.heap.size < w3.heap.size := by omega); (try have hx3w : w.heap.size + 1 < w3.heap.size := by omega)) | (go_at_call 28; refine (implGapType_any _ _ _ _ (by omega)).mono ?_; rw [HX.out]; rintro e w4 ⟨rfl, hb4⟩; obtain ⟨hc4, hf4⟩ := bcell hb4; have hz4 := hb4.size; (try simp at hz4); (try replace hz4 := Nat.lt_of_succ_le hz4); (try have hy4w : w.heap.size < w4.heap.size := by omega); (try have hx4w : w.heap.size + 1 < w4.heap.size := by omega); (try have hy4w3 : w3.heap.size < w4.heap.size := by omega); (try have hx4w3 : w3.heap.size + 1 < w4.heap.size := by omega)) | (go_at_call 26; refine (eqGap_same _ _ _).mono ?_; rintro e w5 ⟨rfl, hb5⟩; obtain ⟨hc5, hf5⟩ := bcell hb5; have hz5 := hb5.size; (try simp at hz5); (try replace hz5 := Nat.lt_of_succ_le hz5); (try have hy5w : w.heap.size < w5.heap.size := by omega); (try have hx5w : w.heap.size + 1 < w5.heap.size := by omega)))
      go_returns
      exact ⟨rfl, (by repeat (first | exact Below.refl _ _ | assumption | (refine bstep ?_ (by assumption)) | refine balloc ?_ _ | refine bdrew ?_ | refine bdrewN ?_ _ | (refine bset ?_ (by simp) _) | (refine bset ?_ (by simp; omega) _)))⟩
end Go.Proofs.Ytlbmmhibepdhlaa.fnExactGapType
