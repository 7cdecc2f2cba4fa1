/- Contracts of the functions on gaps: measuring, copying, validity, text. -/
import Derived.Test.YtlbmmhibepdhlaaW2
namespace Go.Proofs.Ytlbmmhibepdhlaa
open Go.RowKit

theorem szGap_ok (a b : ByteArray) (left : Int) (w : World) (h : (a.size : Int) + b.size ≤ left) (h' : left ≤ 1048576) :
    Calls Try.prog 22 #[.agg #[.string a, .string b], .int .i64 left] w fun e w' => e = .returned (.int .i64 (left - a.size - b.size)) ∧ Below w.heap.size w w' := by
  go_enter Try.func22, Try.ntmps22
  go_wp2
  go_returns
  exact ⟨rfl, (by repeat (first | exact Below.refl _ _ | assumption | (refine bstep ?_ (by assumption)) | refine balloc ?_ _ | refine bdrew ?_ | refine bdrewN ?_ _ | (refine bset ?_ (by simp) _) | (refine bset ?_ (by simp; omega) _)))⟩
theorem szGap_big (a b : ByteArray) (left : Int) (w : World) (ha : a.size ≤ maxLen) (hb : b.size ≤ maxLen) (h : left < (a.size : Int) + b.size) (h0 : 0 ≤ left) (h' : left ≤ 1048576) :
    Calls Try.prog 22 #[.agg #[.string a, .string b], .int .i64 left] w fun e w' => e = .returned (.int .i64 (-1)) ∧ Below w.heap.size w w' := by
  unfold maxLen at ha hb
  by_cases h1 : left < (a.size : Int)
  · go_enter Try.func22, Try.ntmps22
    go_wp2
    go_returns
    exact ⟨rfl, (by repeat (first | exact Below.refl _ _ | assumption | (refine bstep ?_ (by assumption)) | refine balloc ?_ _ | refine bdrew ?_ | refine bdrewN ?_ _ | (refine bset ?_ (by simp) _) | (refine bset ?_ (by simp; omega) _)))⟩
  · go_enter Try.func22, Try.ntmps22
    go_wp2
    go_returns
    exact ⟨rfl, (by repeat (first | exact Below.refl _ _ | assumption | (refine bstep ?_ (by assumption)) | refine balloc ?_ _ | refine bdrew ?_ | refine bdrewN ?_ _ | (refine bset ?_ (by simp) _) | (refine bset ?_ (by simp; omega) _)))⟩
theorem toGap_any (a b : ByteArray) (w : World) :
    Calls Try.prog 24 #[.agg #[.string a, .string b]] w fun e w' => e = .returned (.agg #[.string a, .string b]) ∧ Below w.heap.size w w' := by
  go_enter Try.func24, Try.ntmps24
  go_wp2
  go_returns
  exact ⟨rfl, (by repeat (first | exact Below.refl _ _ | assumption | (refine bstep ?_ (by assumption)) | refine balloc ?_ _ | refine bdrew ?_ | refine bdrewN ?_ _ | (refine bset ?_ (by simp) _) | (refine bset ?_ (by simp; omega) _)))⟩
theorem implGapValid_any (a b : ByteArray) (w : World) (h : a.size + b.size ≤ 1099511627776) :
    Calls Try.prog 56 #[.agg #[.string a, .string b]] w fun e w' => e = .returned (.bool (tvB (a.data.toList ++ b.data.toList))) ∧ Below w.heap.size w w' := by
  go_enter Try.func56, Try.ntmps56
  go_wp2_with (go_at_call 51; refine (implTextValid_any _ _ (by simp only [maxLen]; simp; omega)).mono ?_; rintro e w' ⟨rfl, rfl⟩)
  go_returns
  exact ⟨ret_bool (by simp), (by repeat (first | exact Below.refl _ _ | assumption | (refine bstep ?_ (by assumption)) | refine balloc ?_ _ | refine bdrew ?_ | refine bdrewN ?_ _ | (refine bset ?_ (by simp) _) | (refine bset ?_ (by simp; omega) _)))⟩
theorem specGapValid_any (a b : ByteArray) (w : World) (h : a.size + b.size ≤ 1099511627776) :
    Calls Try.prog 54 #[.agg #[.string a, .string b]] w fun e w' => e = .returned (.bool (tvB (a.data.toList ++ b.data.toList))) ∧ Below w.heap.size w w' := by
  by_cases hl : a.size ≤ 120
  · go_enter Try.func54, Try.ntmps54
    go_wp2_with (go_at_call 50; refine (specTextValid_any _ _ (by simp only [maxLen]; simp; omega)).mono ?_; rintro e w' ⟨rfl, rfl⟩)
    go_returns
    exact ⟨ret_bool (by simp), (by repeat (first | exact Below.refl _ _ | assumption | (refine bstep ?_ (by assumption)) | refine balloc ?_ _ | refine bdrew ?_ | refine bdrewN ?_ _ | (refine bset ?_ (by simp) _) | (refine bset ?_ (by simp; omega) _)))⟩
  · rw [tvB_false_of_length (by simp; omega)]
    go_enter Try.func54, Try.ntmps54
    go_wp2
    go_returns
    exact ⟨rfl, (by repeat (first | exact Below.refl _ _ | assumption | (refine bstep ?_ (by assumption)) | refine balloc ?_ _ | refine bdrew ?_ | refine bdrewN ?_ _ | (refine bset ?_ (by simp) _) | (refine bset ?_ (by simp; omega) _)))⟩
end Go.Proofs.Ytlbmmhibepdhlaa
