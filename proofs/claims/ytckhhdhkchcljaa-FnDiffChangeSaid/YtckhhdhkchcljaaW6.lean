/- Contracts of ApplyChange and ReverseChange. -/
import Derived.Test.YtckhhdhkchcljaaW5
import Derived.BigRegion
namespace Go.Proofs.Ytckhhdhkchcljaa
open Go.RowKit

set_option maxHeartbeats 400000 in
theorem specApplyChange_any (s : ByteArray) (a c : Int) (p : ByteArray) (w : World) (hs : s.size + p.size ≤ 1099511627776) :
    Calls Try.prog 62 #[.string s, .agg #[.int .i64 a, .int .i64 c, .string p]] w fun e w' => e = .returned (strBoolV (applyR s.data.toList a c p.data.toList)) ∧ Below w.heap.size w w' := by
  have hs1 : s.size ≤ maxLen := by unfold maxLen; omega
  cases ht : tvB s.data.toList
  · rw [applyR_0 ht]
    have H := Lib.hid ht
    clear ht
    go_enter Try.func62, Try.ntmps62
    go_wp2_with (go_at_call 23; refine (specTextValid_any _ _ hs1).mono ?_; rw [H.out]; rintro e w' ⟨rfl, rfl⟩)
    go_returns
    exact ⟨rfl, (by repeat (first | exact Below.refl _ _ | assumption | (refine bstep ?_ (by assumption)) | refine balloc ?_ _ | refine bdrew ?_ | refine bdrewN ?_ _ | refine bset ?_ (by first | (simp; done) | (simp; omega)) _))⟩
  · cases hf : fitsB s.data.toList a c p.data.toList
    · rw [applyR_1 ht hf]
      have H := Lib.hid ht
      have HF := Lib.hid hf
      clear ht hf
      go_enter Try.func62, Try.ntmps62
      go_wp2_with (first | (go_at_call 23; refine (specTextValid_any _ _ hs1).mono ?_; rw [H.out]; rintro e w' ⟨rfl, rfl⟩) | (go_at_call 56; refine (specChangeFits_any _ _ _ _ _ hs).mono ?_; rw [HF.out]; rintro e w1 ⟨rfl, hb1⟩; obtain ⟨hc1, hf1⟩ := bcell hb1; have hz1 := hb1.size; (try simp at hz1); (try replace hz1 := Nat.lt_of_succ_le hz1); (try have hy1w : w.heap.size < w1.heap.size := by omega); (try have hx1w : w.heap.size + 1 < w1.heap.size := by omega)))
      go_returns
      exact ⟨rfl, (by repeat (first | exact Below.refl _ _ | assumption | (refine bstep ?_ (by assumption)) | refine balloc ?_ _ | refine bdrew ?_ | refine bdrewN ?_ _ | refine bset ?_ (by first | (simp; done) | (simp; omega)) _))⟩
    · have hr := cutB_range (fitsB_cut hf)
      rw [applyR_2 hf]
      have H := Lib.hid ht
      have HF := Lib.hid hf
      have HO := Lib.hid (out_walk s p a c)
      clear ht hf
      obtain ⟨hr1, hr2, hr3, hr4⟩ := hr
      go_enter Try.func62, Try.ntmps62
      go_wp2_with (first | (go_at_call 23; refine (specTextValid_any _ _ hs1).mono ?_; rw [H.out]; rintro e w' ⟨rfl, rfl⟩) | (go_at_call 56; refine (specChangeFits_any _ _ _ _ _ hs).mono ?_; rw [HF.out]; rintro e w1 ⟨rfl, hb1⟩; obtain ⟨hc1, hf1⟩ := bcell hb1; have hz1 := hb1.size; (try simp at hz1); (try replace hz1 := Nat.lt_of_succ_le hz1); (try have hy1w : w.heap.size < w1.heap.size := by omega); (try have hx1w : w.heap.size + 1 < w1.heap.size := by omega)))
      go_quiet (fail)
      go_wp2
      go_returns
      exact ⟨by unfold strBoolV; rw [← HO.out]; rfl, (by repeat (first | exact Below.refl _ _ | assumption | (refine bstep ?_ (by assumption)) | refine balloc ?_ _ | refine bdrew ?_ | refine bdrewN ?_ _ | refine bset ?_ (by first | (simp; done) | (simp; omega)) _))⟩
set_option maxHeartbeats 400000 in
theorem implApplyChange_any (s : ByteArray) (a c : Int) (p : ByteArray) (w : World) (hs : s.size + p.size ≤ 1099511627776) :
    Calls Try.prog 18 #[.string s, .agg #[.int .i64 a, .int .i64 c, .string p]] w fun e w' => e = .returned (strBoolV (applyR s.data.toList a c p.data.toList)) ∧ Below w.heap.size w w' := by
  have hs1 : s.size ≤ maxLen := by unfold maxLen; omega
  cases ht : tvB s.data.toList
  · rw [applyR_0 ht]
    have H := Lib.hid ht
    clear ht
    go_enter Try.func18, Try.ntmps18
    go_wp2_with (go_at_call 57; refine (implTextValid_any _ _ hs1).mono ?_; rw [H.out]; rintro e w' ⟨rfl, rfl⟩)
    go_returns
    exact ⟨rfl, (by repeat (first | exact Below.refl _ _ | assumption | (refine bstep ?_ (by assumption)) | refine balloc ?_ _ | refine bdrew ?_ | refine bdrewN ?_ _ | refine bset ?_ (by first | (simp; done) | (simp; omega)) _))⟩
  · cases hcut : cutB s.data.toList a c
    · rw [applyR_1 ht (fitsB_no hcut)]
      have H := Lib.hid ht
      have HC := Lib.hid hcut
      clear ht hcut
      go_enter Try.func18, Try.ntmps18
      go_wp2_with (first | (go_at_call 57; refine (implTextValid_any _ _ hs1).mono ?_; rw [H.out]; rintro e w' ⟨rfl, rfl⟩) | (go_at_call 58; refine (apply_no _ _ _ _ _ hs1 HC.out).mono ?_; rintro e w1 ⟨rfl, hb1⟩; obtain ⟨hc1, hf1⟩ := bcell hb1; have hz1 := hb1.size; (try simp at hz1); (try replace hz1 := Nat.lt_of_succ_le hz1); (try have hy1w : w.heap.size < w1.heap.size := by omega); (try have hx1w : w.heap.size + 1 < w1.heap.size := by omega)))
      go_returns
      exact ⟨rfl, (by repeat (first | exact Below.refl _ _ | assumption | (refine bstep ?_ (by assumption)) | refine balloc ?_ _ | refine bdrew ?_ | refine bdrewN ?_ _ | refine bset ?_ (by first | (simp; done) | (simp; omega)) _))⟩
    · cases hf : fitsB s.data.toList a c p.data.toList
      · rw [applyR_1 ht hf]
        have H := Lib.hid ht
        have HC := Lib.hid hcut
        have HF := Lib.hid hf
        clear ht hcut hf
        go_enter Try.func18, Try.ntmps18
        go_wp2_with (first | (go_at_call 57; refine (implTextValid_any _ _ hs1).mono ?_; rw [H.out]; rintro e w' ⟨rfl, rfl⟩) | (go_at_call 58; refine (apply_yes _ _ _ _ _ hs HC.out).mono ?_; rw [HF.out]; rintro e w1 ⟨rfl, hb1⟩; obtain ⟨hc1, hf1⟩ := bcell hb1; have hz1 := hb1.size; (try simp at hz1); (try replace hz1 := Nat.lt_of_succ_le hz1); (try have hy1w : w.heap.size < w1.heap.size := by omega); (try have hx1w : w.heap.size + 1 < w1.heap.size := by omega)))
        go_returns
        exact ⟨rfl, (by repeat (first | exact Below.refl _ _ | assumption | (refine bstep ?_ (by assumption)) | refine balloc ?_ _ | refine bdrew ?_ | refine bdrewN ?_ _ | refine bset ?_ (by first | (simp; done) | (simp; omega)) _))⟩
      · rw [applyR_2 hf]
        have H := Lib.hid ht
        have HC := Lib.hid hcut
        have HF := Lib.hid hf
        clear ht hcut hf
        go_enter Try.func18, Try.ntmps18
        go_wp2_with (first | (go_at_call 57; refine (implTextValid_any _ _ hs1).mono ?_; rw [H.out]; rintro e w' ⟨rfl, rfl⟩) | (go_at_call 58; refine (apply_yes _ _ _ _ _ hs HC.out).mono ?_; rw [HF.out]; rintro e w1 ⟨rfl, hb1⟩; obtain ⟨hc1, hf1⟩ := bcell hb1; have hz1 := hb1.size; (try simp at hz1); (try replace hz1 := Nat.lt_of_succ_le hz1); (try have hy1w : w.heap.size < w1.heap.size := by omega); (try have hx1w : w.heap.size + 1 < w1.heap.size := by omega)))
        go_returns
        exact ⟨rfl, (by repeat (first | exact Below.refl _ _ | assumption | (refine bstep ?_ (by assumption)) | refine balloc ?_ _ | refine bdrew ?_ | refine bdrewN ?_ _ | refine bset ?_ (by first | (simp; done) | (simp; omega)) _))⟩
set_option maxHeartbeats 400000 in
theorem specReverseChange_any (s : ByteArray) (a c : Int) (p : ByteArray) (w : World) (hs : s.size + p.size ≤ 1099511627776) :
    Calls Try.prog 16 #[.string s, .agg #[.int .i64 a, .int .i64 c, .string p]] w fun e w' => e = .returned (.tuple #[changeV (revR s.data.toList a c p.data.toList).1, .bool (revR s.data.toList a c p.data.toList).2]) ∧ Below w.heap.size w w' := by
  have hs1 : s.size ≤ maxLen := by unfold maxLen; omega
  have hp1 : p.size ≤ 1099511627776 := by omega
  cases hf : fitsB s.data.toList a c p.data.toList
  · rw [revR_0 hf]
    have HF := Lib.hid hf
    clear hf
    go_enter Try.func16, Try.ntmps16
    go_wp2_with (go_at_call 56; refine (specChangeFits_any _ _ _ _ _ hs).mono ?_; rw [HF.out]; rintro e w1 ⟨rfl, hb1⟩; obtain ⟨hc1, hf1⟩ := bcell hb1; have hz1 := hb1.size; (try simp at hz1); (try replace hz1 := Nat.lt_of_succ_le hz1); (try have hy1w : w.heap.size < w1.heap.size := by omega); (try have hx1w : w.heap.size + 1 < w1.heap.size := by omega))
    refine bodyPost_ret (v := .tuple #[.agg #[.int .i64 0, .int .i64 0, .string ⟨#[]⟩], .bool false]) (by simp [results, Try.results16, go_sem, hc1]) rfl ⟨?_, (by repeat (first | exact Below.refl _ _ | assumption | (refine bstep ?_ (by assumption)) | refine balloc ?_ _ | refine bdrew ?_ | refine bdrewN ?_ _ | refine bset ?_ (by first | (simp; done) | (simp; omega)) _))⟩
    rfl
  · have hr := cutB_range (fitsB_cut hf)
    rw [revR_1 hf]
    have HF := Lib.hid hf
    have HO := Lib.hid (extract_mid s a.toNat (a + c).toNat)
    clear hf
    obtain ⟨hr1, hr2, hr3, hr4⟩ := hr
    go_enter Try.func16, Try.ntmps16
    go_wp2_with (go_at_call 56; refine (specChangeFits_any _ _ _ _ _ hs).mono ?_; rw [HF.out]; rintro e w1 ⟨rfl, hb1⟩; obtain ⟨hc1, hf1⟩ := bcell hb1; have hz1 := hb1.size; (try simp at hz1); (try replace hz1 := Nat.lt_of_succ_le hz1); (try have hy1w : w.heap.size < w1.heap.size := by omega); (try have hx1w : w.heap.size + 1 < w1.heap.size := by omega))
    go_region
    go_wp2
    refine bodyPost_ret (v := .tuple #[.agg #[.int .i64 a, .int .i64 p.size, .string (s.extract a.toNat (a + c).toNat)], .bool true]) (by simp [results, Try.results16, go_sem, hc1]) rfl ⟨?_, (by repeat (first | exact Below.refl _ _ | assumption | (refine bstep ?_ (by assumption)) | refine balloc ?_ _ | refine bdrew ?_ | refine bdrewN ?_ _ | refine bset ?_ (by first | (simp; done) | (simp; omega)) _))⟩
    unfold changeV
    rw [HO.out]
    rfl
set_option maxHeartbeats 400000 in
theorem implReverseChange_any (s : ByteArray) (a c : Int) (p : ByteArray) (w : World) (hs : s.size + p.size ≤ 1099511627776) :
    Calls Try.prog 15 #[.string s, .agg #[.int .i64 a, .int .i64 c, .string p]] w fun e w' => e = .returned (.tuple #[changeV (revR s.data.toList a c p.data.toList).1, .bool (revR s.data.toList a c p.data.toList).2]) ∧ Below w.heap.size w w' := by
  have hs1 : s.size ≤ maxLen := by unfold maxLen; omega
  have hp1 : p.size ≤ 1099511627776 := by omega
  cases hf : fitsB s.data.toList a c p.data.toList
  · rw [revR_0 hf]
    have HF := Lib.hid hf
    clear hf
    go_enter Try.func15, Try.ntmps15
    go_wp2_with (go_at_call 55; refine (implChangeFits_any _ _ _ _ _ hs).mono ?_; rw [HF.out]; rintro e w1 ⟨rfl, hb1⟩; obtain ⟨hc1, hf1⟩ := bcell hb1; have hz1 := hb1.size; (try simp at hz1); (try replace hz1 := Nat.lt_of_succ_le hz1); (try have hy1w : w.heap.size < w1.heap.size := by omega); (try have hx1w : w.heap.size + 1 < w1.heap.size := by omega))
    refine bodyPost_ret (v := .tuple #[.agg #[.int .i64 0, .int .i64 0, .string ⟨#[]⟩], .bool false]) (by simp [results, Try.results15, go_sem, hc1]) rfl ⟨?_, (by repeat (first | exact Below.refl _ _ | assumption | (refine bstep ?_ (by assumption)) | refine balloc ?_ _ | refine bdrew ?_ | refine bdrewN ?_ _ | refine bset ?_ (by first | (simp; done) | (simp; omega)) _))⟩
    rfl
  · have hr := cutB_range (fitsB_cut hf)
    rw [revR_1 hf]
    have HF := Lib.hid hf
    have HO := Lib.hid (extract_mid s a.toNat (a + c).toNat)
    clear hf
    obtain ⟨hr1, hr2, hr3, hr4⟩ := hr
    go_enter Try.func15, Try.ntmps15
    go_wp2_with (go_at_call 55; refine (implChangeFits_any _ _ _ _ _ hs).mono ?_; rw [HF.out]; rintro e w1 ⟨rfl, hb1⟩; obtain ⟨hc1, hf1⟩ := bcell hb1; have hz1 := hb1.size; (try simp at hz1); (try replace hz1 := Nat.lt_of_succ_le hz1); (try have hy1w : w.heap.size < w1.heap.size := by omega); (try have hx1w : w.heap.size + 1 < w1.heap.size := by omega))
    go_region
    go_wp2
    refine bodyPost_ret (v := .tuple #[.agg #[.int .i64 a, .int .i64 p.size, .string (s.extract a.toNat (a + c).toNat)], .bool true]) (by simp [results, Try.results15, go_sem, hc1]) rfl ⟨?_, (by repeat (first | exact Below.refl _ _ | assumption | (refine bstep ?_ (by assumption)) | refine balloc ?_ _ | refine bdrew ?_ | refine bdrewN ?_ _ | refine bset ?_ (by first | (simp; done) | (simp; omega)) _))⟩
    unfold changeV
    rw [HO.out]
    rfl
end Go.Proofs.Ytckhhdhkchcljaa
