/- Contracts of ApplyChange and ReverseChange. -/
import Derived.Test.YtlndlgbpnlfflaaW5
import Derived.BigRegion
namespace Go.Proofs.Ytlndlgbpnlfflaa
open Go.RowKit

set_option maxHeartbeats 400000 in
theorem implApplyChange_any (s : ByteArray) (a c : Int) (p : ByteArray) (w : World) (hs : s.size + p.size ≤ 1099511627776) :
    Calls Try.prog 20 #[.string s, .agg #[.int .i64 a, .int .i64 c, .string p]] w fun e w' => e = .returned (strBoolV (applyR s.data.toList a c p.data.toList)) ∧ Below w.heap.size w w' := by
  have hs1 : s.size ≤ maxLen := by unfold maxLen; omega
  cases ht : tvB s.data.toList
  · rw [applyR_0 ht]
    have H := Lib.hid ht
    clear ht
    go_enter Try.func20, Try.ntmps20
    go_wp2_with (go_at_call 49; refine (implTextValid_any _ _ hs1).mono ?_; rw [H.out]; rintro e w' ⟨rfl, rfl⟩)
    go_returns
    exact ⟨rfl, (by repeat (first | exact Below.refl _ _ | assumption | (refine bstep ?_ (by assumption)) | refine balloc ?_ _ | refine bdrew ?_ | refine bdrewN ?_ _ | refine bset ?_ (by first | (simp; done) | (simp; omega)) _))⟩
  · cases hcut : cutB s.data.toList a c
    · rw [applyR_1 ht (fitsB_no hcut)]
      have H := Lib.hid ht
      have HC := Lib.hid hcut
      clear ht hcut
      go_enter Try.func20, Try.ntmps20
      go_wp2_with (first | (go_at_call 49; refine (implTextValid_any _ _ hs1).mono ?_; rw [H.out]; rintro e w' ⟨rfl, rfl⟩) | (go_at_call 50; refine (apply_no _ _ _ _ _ hs1 HC.out).mono ?_; rintro e w1 ⟨rfl, hb1⟩; obtain ⟨hc1, hf1⟩ := bcell hb1; have hz1 := hb1.size; (try simp at hz1); (try replace hz1 := Nat.lt_of_succ_le hz1); (try have hy1w : w.heap.size < w1.heap.size := by omega); (try have hx1w : w.heap.size + 1 < w1.heap.size := by omega)))
      go_returns
      exact ⟨rfl, (by repeat (first | exact Below.refl _ _ | assumption | (refine bstep ?_ (by assumption)) | refine balloc ?_ _ | refine bdrew ?_ | refine bdrewN ?_ _ | refine bset ?_ (by first | (simp; done) | (simp; omega)) _))⟩
    · cases hf : fitsB s.data.toList a c p.data.toList
      · rw [applyR_1 ht hf]
        have H := Lib.hid ht
        have HC := Lib.hid hcut
        have HF := Lib.hid hf
        clear ht hcut hf
        go_enter Try.func20, Try.ntmps20
        go_wp2_with (first | (go_at_call 49; refine (implTextValid_any _ _ hs1).mono ?_; rw [H.out]; rintro e w' ⟨rfl, rfl⟩) | (go_at_call 50; refine (apply_yes _ _ _ _ _ hs HC.out).mono ?_; rw [HF.out]; rintro e w1 ⟨rfl, hb1⟩; obtain ⟨hc1, hf1⟩ := bcell hb1; have hz1 := hb1.size; (try simp at hz1); (try replace hz1 := Nat.lt_of_succ_le hz1); (try have hy1w : w.heap.size < w1.heap.size := by omega); (try have hx1w : w.heap.size + 1 < w1.heap.size := by omega)))
        go_returns
        exact ⟨rfl, (by repeat (first | exact Below.refl _ _ | assumption | (refine bstep ?_ (by assumption)) | refine balloc ?_ _ | refine bdrew ?_ | refine bdrewN ?_ _ | refine bset ?_ (by first | (simp; done) | (simp; omega)) _))⟩
      · rw [applyR_2 hf]
        have H := Lib.hid ht
        have HC := Lib.hid hcut
        have HF := Lib.hid hf
        clear ht hcut hf
        go_enter Try.func20, Try.ntmps20
        go_wp2_with (first | (go_at_call 49; refine (implTextValid_any _ _ hs1).mono ?_; rw [H.out]; rintro e w' ⟨rfl, rfl⟩) | (go_at_call 50; refine (apply_yes _ _ _ _ _ hs HC.out).mono ?_; rw [HF.out]; rintro e w1 ⟨rfl, hb1⟩; obtain ⟨hc1, hf1⟩ := bcell hb1; have hz1 := hb1.size; (try simp at hz1); (try replace hz1 := Nat.lt_of_succ_le hz1); (try have hy1w : w.heap.size < w1.heap.size := by omega); (try have hx1w : w.heap.size + 1 < w1.heap.size := by omega)))
        go_returns
        exact ⟨rfl, (by repeat (first | exact Below.refl _ _ | assumption | (refine bstep ?_ (by assumption)) | refine balloc ?_ _ | refine bdrew ?_ | refine bdrewN ?_ _ | refine bset ?_ (by first | (simp; done) | (simp; omega)) _))⟩
end Go.Proofs.Ytlndlgbpnlfflaa
