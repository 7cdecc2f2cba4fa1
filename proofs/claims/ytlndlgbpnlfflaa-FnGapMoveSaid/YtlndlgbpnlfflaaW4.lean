/- Contracts of the functions on gaps: measuring, copying, validity, text. -/
import Derived.Test.YtlndlgbpnlfflaaW2
namespace Go.Proofs.Ytlndlgbpnlfflaa
open Go.RowKit

theorem implGapValid_any (a b : ByteArray) (w : World) (h : a.size + b.size ≤ 1099511627776) :
    Calls Try.prog 43 #[.agg #[.string a, .string b]] w fun e w' => e = .returned (.bool (tvB (a.data.toList ++ b.data.toList))) ∧ Below w.heap.size w w' := by
  go_enter Try.func43, Try.ntmps43
  go_wp2_with (go_at_call 49; refine (implTextValid_any _ _ (by simp only [maxLen]; simp; omega)).mono ?_; rintro e w' ⟨rfl, rfl⟩)
  go_returns
  exact ⟨ret_bool (by simp), (by repeat (first | exact Below.refl _ _ | assumption | (refine bstep ?_ (by assumption)) | refine balloc ?_ _ | refine bdrew ?_ | refine bdrewN ?_ _ | refine bset ?_ (by first | (simp; done) | (simp; omega)) _))⟩
theorem specGapValid_any (a b : ByteArray) (w : World) (h : a.size + b.size ≤ 1099511627776) :
    Calls Try.prog 13 #[.agg #[.string a, .string b]] w fun e w' => e = .returned (.bool (tvB (a.data.toList ++ b.data.toList))) ∧ Below w.heap.size w w' := by
  by_cases hl : a.size ≤ 120
  · go_enter Try.func13, Try.ntmps13
    go_wp2_with (go_at_call 37; refine (specTextValid_any _ _ (by simp only [maxLen]; simp; omega)).mono ?_; rintro e w' ⟨rfl, rfl⟩)
    go_returns
    exact ⟨ret_bool (by simp), (by repeat (first | exact Below.refl _ _ | assumption | (refine bstep ?_ (by assumption)) | refine balloc ?_ _ | refine bdrew ?_ | refine bdrewN ?_ _ | refine bset ?_ (by first | (simp; done) | (simp; omega)) _))⟩
  · rw [tvB_false_of_length (by simp; omega)]
    go_enter Try.func13, Try.ntmps13
    go_wp2
    go_returns
    exact ⟨rfl, (by repeat (first | exact Below.refl _ _ | assumption | (refine bstep ?_ (by assumption)) | refine balloc ?_ _ | refine bdrew ?_ | refine bdrewN ?_ _ | refine bset ?_ (by first | (simp; done) | (simp; omega)) _))⟩
theorem implGapText_any (a b : ByteArray) (w : World) (h : a.size + b.size ≤ 1099511627776) :
    Calls Try.prog 15 #[.agg #[.string a, .string b]] w fun e w' => e = .returned (.string (mk (gapTextL a.data.toList b.data.toList))) ∧ Below w.heap.size w w' := by
  cases ht : tvB (a.data.toList ++ b.data.toList)
  · rw [gapTextL_bad ht]
    have H := Lib.hid ht
    clear ht
    go_enter Try.func15, Try.ntmps15
    go_wp2_with (go_at_call 43; refine (implGapValid_any _ _ _ h).mono ?_; rw [H.out]; rintro e w1 ⟨rfl, hb1⟩; obtain ⟨hc1, hf1⟩ := bcell hb1; have hz1 := hb1.size; (try simp at hz1); (try replace hz1 := Nat.lt_of_succ_le hz1); (try have hy1w : w.heap.size < w1.heap.size := by omega); (try have hx1w : w.heap.size + 1 < w1.heap.size := by omega))
    go_returns
    exact ⟨rfl, (by repeat (first | exact Below.refl _ _ | assumption | (refine bstep ?_ (by assumption)) | refine balloc ?_ _ | refine bdrew ?_ | refine bdrewN ?_ _ | refine bset ?_ (by first | (simp; done) | (simp; omega)) _))⟩
  · rw [gapTextL_good ht, ← append_mk]
    have H := Lib.hid ht
    clear ht
    go_enter Try.func15, Try.ntmps15
    go_wp2_with (go_at_call 43; refine (implGapValid_any _ _ _ h).mono ?_; rw [H.out]; rintro e w1 ⟨rfl, hb1⟩; obtain ⟨hc1, hf1⟩ := bcell hb1; have hz1 := hb1.size; (try simp at hz1); (try replace hz1 := Nat.lt_of_succ_le hz1); (try have hy1w : w.heap.size < w1.heap.size := by omega); (try have hx1w : w.heap.size + 1 < w1.heap.size := by omega))
    go_returns
    exact ⟨rfl, (by repeat (first | exact Below.refl _ _ | assumption | (refine bstep ?_ (by assumption)) | refine balloc ?_ _ | refine bdrew ?_ | refine bdrewN ?_ _ | refine bset ?_ (by first | (simp; done) | (simp; omega)) _))⟩
end Go.Proofs.Ytlndlgbpnlfflaa
