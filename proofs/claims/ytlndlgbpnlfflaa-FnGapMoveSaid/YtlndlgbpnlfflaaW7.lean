/- Contracts of GapErase, GapType and GapMove. -/
import Derived.Test.YtlndlgbpnlfflaaW4
import Derived.BigRegion
import Derived.Deep.QuietTactic
import Derived.BigQuiet
namespace Go.Proofs.Ytlndlgbpnlfflaa
open Go.RowKit

set_option maxHeartbeats 400000 in
theorem specGapErase_any (a b : ByteArray) (n : Int) (w : World) (hs : a.size + b.size ≤ 1099511627776) :
    Calls Try.prog 19 #[.agg #[.string a, .string b], .int .i64 n] w fun e w' => e = .returned (.tuple #[gapV (eraseR a.data.toList b.data.toList n).1, .bool (eraseR a.data.toList b.data.toList n).2]) ∧ Below w.heap.size w w' := by
  have ha1 : a.size ≤ 1099511627776 := by omega
  cases ht : tvB (a.data.toList ++ b.data.toList)
  · rw [eraseR_0 ht]
    have H := Lib.hid ht
    clear ht
    go_enter Try.func19, Try.ntmps19
    go_wp2_with (go_at_call 13; refine (specGapValid_any _ _ _ hs).mono ?_; rw [H.out]; rintro e w1 ⟨rfl, hb1⟩; obtain ⟨hc1, hf1⟩ := bcell hb1; have hz1 := hb1.size; (try simp at hz1); (try replace hz1 := Nat.lt_of_succ_le hz1); (try have hy1w : w.heap.size < w1.heap.size := by omega); (try have hx1w : w.heap.size + 1 < w1.heap.size := by omega))
    refine bodyPost_ret (v := .tuple #[.agg #[.string ⟨#[]⟩, .string ⟨#[]⟩], .bool false]) (by simp [results, Try.results19, go_sem, hc1]) rfl ⟨?_, (by repeat (first | exact Below.refl _ _ | assumption | (refine bstep ?_ (by assumption)) | refine balloc ?_ _ | refine bdrew ?_ | refine bdrewN ?_ _ | refine bset ?_ (by first | (simp; done) | (simp; omega)) _))⟩
    rfl
  · cases hn : inI n 0 (a.size : Int)
    · rw [eraseR_1 ht hn]
      have H := Lib.hid ht
      have HN := Lib.hid hn
      clear ht hn
      go_enter Try.func19, Try.ntmps19
      go_wp2_with (first | (go_at_call 13; refine (specGapValid_any _ _ _ hs).mono ?_; rw [H.out]; rintro e w1 ⟨rfl, hb1⟩; obtain ⟨hc1, hf1⟩ := bcell hb1; have hz1 := hb1.size; (try simp at hz1); (try replace hz1 := Nat.lt_of_succ_le hz1); (try have hy1w : w.heap.size < w1.heap.size := by omega); (try have hx1w : w.heap.size + 1 < w1.heap.size := by omega)) | (go_at_call 48; refine (l1In_any _ _ _ _).mono ?_; rw [HN.out]; rintro e w' ⟨rfl, rfl⟩))
      refine bodyPost_ret (v := .tuple #[.agg #[.string a, .string b], .bool false]) (by simp [results, Try.results19, go_sem, hc1]) rfl ⟨?_, (by repeat (first | exact Below.refl _ _ | assumption | (refine bstep ?_ (by assumption)) | refine balloc ?_ _ | refine bdrew ?_ | refine bdrewN ?_ _ | refine bset ?_ (by first | (simp; done) | (simp; omega)) _))⟩
      rfl
    · rw [eraseR_2 ht hn]
      have H := Lib.hid ht
      have HN := Lib.hid hn
      have hr := (inI_iff _ _ _).1 hn
      have HO := Lib.hid (extract_head a ((a.size : Int) - n).toNat)
      clear ht hn
      obtain ⟨hr1, hr2⟩ := hr
      go_enter Try.func19, Try.ntmps19
      go_wp2_with (first | (go_at_call 13; refine (specGapValid_any _ _ _ hs).mono ?_; rw [H.out]; rintro e w1 ⟨rfl, hb1⟩; obtain ⟨hc1, hf1⟩ := bcell hb1; have hz1 := hb1.size; (try simp at hz1); (try replace hz1 := Nat.lt_of_succ_le hz1); (try have hy1w : w.heap.size < w1.heap.size := by omega); (try have hx1w : w.heap.size + 1 < w1.heap.size := by omega)) | (go_at_call 48; refine (l1In_any _ _ _ _).mono ?_; rw [HN.out]; rintro e w' ⟨rfl, rfl⟩))
      go_region
      go_wp2
      refine bodyPost_ret (v := .tuple #[.agg #[.string (a.extract 0 ((a.size : Int) - n).toNat), .string b], .bool true]) (by simp [results, Try.results19, go_sem, hc1]) rfl ⟨?_, (by repeat (first | exact Below.refl _ _ | assumption | (refine bstep ?_ (by assumption)) | refine balloc ?_ _ | refine bdrew ?_ | refine bdrewN ?_ _ | refine bset ?_ (by first | (simp; done) | (simp; omega)) _))⟩
      unfold gapV
      rw [HO.out]
      rfl
set_option maxHeartbeats 400000 in
theorem specGapType_any (a b p : ByteArray) (w : World) (hs : a.size + b.size + p.size ≤ 1099511627776) :
    Calls Try.prog 23 #[.agg #[.string a, .string b], .string p] w fun e w' => e = .returned (.tuple #[gapV (typeR a.data.toList b.data.toList p.data.toList).1, .bool (typeR a.data.toList b.data.toList p.data.toList).2]) ∧ Below w.heap.size w w' := by
  cases ht : tvB (a.data.toList ++ b.data.toList)
  · rw [typeR_0 ht]
    have H := Lib.hid ht
    clear ht
    go_enter Try.func23, Try.ntmps23
    go_wp2_with (go_at_call 13; refine (specGapValid_any _ _ _ (by omega)).mono ?_; rw [H.out]; rintro e w1 ⟨rfl, hb1⟩; obtain ⟨hc1, hf1⟩ := bcell hb1; have hz1 := hb1.size; (try simp at hz1); (try replace hz1 := Nat.lt_of_succ_le hz1); (try have hy1w : w.heap.size < w1.heap.size := by omega); (try have hx1w : w.heap.size + 1 < w1.heap.size := by omega))
    refine bodyPost_ret (v := .tuple #[.agg #[.string ⟨#[]⟩, .string ⟨#[]⟩], .bool false]) (by simp [results, Try.results23, go_sem, hc1]) rfl ⟨?_, (by repeat (first | exact Below.refl _ _ | assumption | (refine bstep ?_ (by assumption)) | refine balloc ?_ _ | refine bdrew ?_ | refine bdrewN ?_ _ | refine bset ?_ (by first | (simp; done) | (simp; omega)) _))⟩
    rfl
  · have hap : tvB ((a ++ p).data.toList ++ b.data.toList) = tvB (a.data.toList ++ p.data.toList ++ b.data.toList) := by rw [append_mk]; rfl
    cases hn : tvB (a.data.toList ++ p.data.toList ++ b.data.toList)
    · rw [typeR_1 ht hn]
      rw [hn] at hap
      have H := Lib.hid ht
      have HN := Lib.hid hap
      clear ht hn hap
      go_enter Try.func23, Try.ntmps23
      go_wp2_with (go_at_call 13; refine (specGapValid_any _ _ _ (by omega)).mono ?_; rw [H.out]; rintro e w1 ⟨rfl, hb1⟩; obtain ⟨hc1, hf1⟩ := bcell hb1; have hz1 := hb1.size; (try simp at hz1); (try replace hz1 := Nat.lt_of_succ_le hz1); (try have hy1w : w.heap.size < w1.heap.size := by omega); (try have hx1w : w.heap.size + 1 < w1.heap.size := by omega))
      (go_at_call 13; refine (specGapValid_any _ _ _ (by simp; omega)).mono ?_; rw [HN.out]; rintro e w2 ⟨rfl, hb2⟩; obtain ⟨hc2, hf2⟩ := bcell hb2; have hz2 := hb2.size; (try simp at hz2); (try replace hz2 := Nat.lt_of_succ_le hz2); (try have hy2w : w.heap.size < w2.heap.size := by omega); (try have hx2w : w.heap.size + 1 < w2.heap.size := by omega))
      go_wp2
      refine bodyPost_ret (v := .tuple #[.agg #[.string a, .string b], .bool false]) (by simp [results, Try.results23, go_sem, hc1, hc2, hx1w, hy1w]) rfl ⟨?_, (by repeat (first | exact Below.refl _ _ | assumption | (refine bstep ?_ (by assumption)) | refine balloc ?_ _ | refine bdrew ?_ | refine bdrewN ?_ _ | refine bset ?_ (by first | (simp; done) | (simp; omega)) _))⟩
      rfl
    · rw [typeR_2 ht hn]
      rw [hn] at hap
      have H := Lib.hid ht
      have HN := Lib.hid hap
      have HO := Lib.hid (append_mk a p)
      clear ht hn hap
      go_enter Try.func23, Try.ntmps23
      go_wp2_with (go_at_call 13; refine (specGapValid_any _ _ _ (by omega)).mono ?_; rw [H.out]; rintro e w1 ⟨rfl, hb1⟩; obtain ⟨hc1, hf1⟩ := bcell hb1; have hz1 := hb1.size; (try simp at hz1); (try replace hz1 := Nat.lt_of_succ_le hz1); (try have hy1w : w.heap.size < w1.heap.size := by omega); (try have hx1w : w.heap.size + 1 < w1.heap.size := by omega))
      (go_at_call 13; refine (specGapValid_any _ _ _ (by simp; omega)).mono ?_; rw [HN.out]; rintro e w2 ⟨rfl, hb2⟩; obtain ⟨hc2, hf2⟩ := bcell hb2; have hz2 := hb2.size; (try simp at hz2); (try replace hz2 := Nat.lt_of_succ_le hz2); (try have hy2w : w.heap.size < w2.heap.size := by omega); (try have hx2w : w.heap.size + 1 < w2.heap.size := by omega))
      go_wp2
      refine bodyPost_ret (v := .tuple #[.agg #[.string (a ++ p), .string b], .bool true]) (by simp [results, Try.results23, go_sem, hc1, hc2, hx1w, hy1w]) rfl ⟨?_, (by repeat (first | exact Below.refl _ _ | assumption | (refine bstep ?_ (by assumption)) | refine balloc ?_ _ | refine bdrew ?_ | refine bdrewN ?_ _ | refine bset ?_ (by first | (simp; done) | (simp; omega)) _))⟩
      unfold gapV
      rw [HO.out]
      rfl
set_option maxHeartbeats 400000 in
theorem specGapMove_any (a b : ByteArray) (n : Int) (w : World) (hs : a.size + b.size ≤ 1099511627776) :
    Calls Try.prog 12 #[.agg #[.string a, .string b], .int .i64 n] w fun e w' => e = .returned (gapV (moveR a.data.toList b.data.toList n)) ∧ Below w.heap.size w w' := by
  have ha1 : a.size ≤ 1099511627776 := by omega
  have hb1 : b.size ≤ 1099511627776 := by omega
  cases ht : tvB (a.data.toList ++ b.data.toList)
  · rw [moveR_0 ht]
    have H := Lib.hid ht
    clear ht
    go_enter Try.func12, Try.ntmps12
    go_wp2_with (go_at_call 13; refine (specGapValid_any _ _ _ hs).mono ?_; rw [H.out]; rintro e w1 ⟨rfl, hb1⟩; obtain ⟨hc1, hf1⟩ := bcell hb1; have hz1 := hb1.size; (try simp at hz1); (try replace hz1 := Nat.lt_of_succ_le hz1); (try have hy1w : w.heap.size < w1.heap.size := by omega); (try have hx1w : w.heap.size + 1 < w1.heap.size := by omega))
    refine bodyPost_ret (v := .agg #[.string ⟨#[]⟩, .string ⟨#[]⟩]) (by simp [results, Try.results12, go_sem, hc1]) rfl ⟨?_, (by repeat (first | exact Below.refl _ _ | assumption | (refine bstep ?_ (by assumption)) | refine balloc ?_ _ | refine bdrew ?_ | refine bdrewN ?_ _ | refine bset ?_ (by first | (simp; done) | (simp; omega)) _))⟩
    rfl
  · rw [moveR_1 ht]
    have H := Lib.hid ht
    clear ht
    have hdl : (a ++ b).data.toList = a.data.toList ++ b.data.toList := by rw [append_mk]; rfl
    have hal : (a.data.toList.length : Int) = a.size := rfl
    have hbl : (b.data.toList.length : Int) = b.size := rfl
    by_cases h2 : n ≤ -(a.size : Int) ∨ (b.size : Int) ≤ -(a.size : Int)
    · have hv : (a.data.toList.length : Int) + max (-(a.data.toList.length : Int)) (min (b.data.toList.length : Int) n) = (a.size : Int) + -(a.size : Int) := by omega
      rw [hv, ← hdl]
      obtain ⟨x, y, hxy⟩ : ∃ x y, gapV (gapOfL (a ++ b).data.toList ((a.size : Int) + -(a.size : Int))) = .agg #[.string x, .string y] := ⟨_, _, rfl⟩
      rw [hxy]
      have HX := Lib.hid hxy
      clear hxy hv hdl hal hbl
      go_enter Try.func12, Try.ntmps12
      go_wp2_with (first | (go_at_call 13; refine (specGapValid_any _ _ _ hs).mono ?_; rw [H.out]; rintro e w1 ⟨rfl, hb1⟩; obtain ⟨hc1, hf1⟩ := bcell hb1; have hz1 := hb1.size; (try simp at hz1); (try replace hz1 := Nat.lt_of_succ_le hz1); (try have hy1w : w.heap.size < w1.heap.size := by omega); (try have hx1w : w.heap.size + 1 < w1.heap.size := by omega)) | (go_at_call 44; refine (specGapOf_any _ _ _ (by simp [maxLen]; omega)).mono ?_; rw [HX.out]; rintro e w2 ⟨rfl, hb2⟩; obtain ⟨hc2, hf2⟩ := bcell hb2; have hz2 := hb2.size; (try simp at hz2); (try replace hz2 := Nat.lt_of_succ_le hz2); (try have hy2w : w.heap.size < w2.heap.size := by omega); (try have hx2w : w.heap.size + 1 < w2.heap.size := by omega)))
      all_goals refine bodyPost_ret (v := .agg #[.string x, .string y]) (by simp [results, Try.results12, go_sem, hc1, hc2, hx1w]) rfl ⟨?_, (by repeat (first | exact Below.refl _ _ | assumption | (refine bstep ?_ (by assumption)) | refine balloc ?_ _ | refine bdrew ?_ | refine bdrewN ?_ _ | refine bset ?_ (by first | (simp; done) | (simp; omega)) _))⟩
      all_goals rfl
    · have h3 : -(a.size : Int) < n := by omega
      have h4 : -(a.size : Int) < (b.size : Int) := by omega
      clear h2
      by_cases h1 : (b.size : Int) ≤ n
      · have hv : (a.data.toList.length : Int) + max (-(a.data.toList.length : Int)) (min (b.data.toList.length : Int) n) = (a.size : Int) + b.size := by omega
        rw [hv, ← hdl]
        obtain ⟨x, y, hxy⟩ : ∃ x y, gapV (gapOfL (a ++ b).data.toList ((a.size : Int) + b.size)) = .agg #[.string x, .string y] := ⟨_, _, rfl⟩
        rw [hxy]
        have HX := Lib.hid hxy
        clear hxy hv hdl hal hbl
        go_enter Try.func12, Try.ntmps12
        go_wp2_with (first | (go_at_call 13; refine (specGapValid_any _ _ _ hs).mono ?_; rw [H.out]; rintro e w1 ⟨rfl, hb1⟩; obtain ⟨hc1, hf1⟩ := bcell hb1; have hz1 := hb1.size; (try simp at hz1); (try replace hz1 := Nat.lt_of_succ_le hz1); (try have hy1w : w.heap.size < w1.heap.size := by omega); (try have hx1w : w.heap.size + 1 < w1.heap.size := by omega)) | (go_at_call 44; refine (specGapOf_any _ _ _ (by simp [maxLen]; omega)).mono ?_; rw [HX.out]; rintro e w2 ⟨rfl, hb2⟩; obtain ⟨hc2, hf2⟩ := bcell hb2; have hz2 := hb2.size; (try simp at hz2); (try replace hz2 := Nat.lt_of_succ_le hz2); (try have hy2w : w.heap.size < w2.heap.size := by omega); (try have hx2w : w.heap.size + 1 < w2.heap.size := by omega)))
        all_goals refine bodyPost_ret (v := .agg #[.string x, .string y]) (by simp [results, Try.results12, go_sem, hc1, hc2, hx1w]) rfl ⟨?_, (by repeat (first | exact Below.refl _ _ | assumption | (refine bstep ?_ (by assumption)) | refine balloc ?_ _ | refine bdrew ?_ | refine bdrewN ?_ _ | refine bset ?_ (by first | (simp; done) | (simp; omega)) _))⟩
        all_goals rfl
      · have hv : (a.data.toList.length : Int) + max (-(a.data.toList.length : Int)) (min (b.data.toList.length : Int) n) = (a.size : Int) + n := by omega
        rw [hv, ← hdl]
        obtain ⟨x, y, hxy⟩ : ∃ x y, gapV (gapOfL (a ++ b).data.toList ((a.size : Int) + n)) = .agg #[.string x, .string y] := ⟨_, _, rfl⟩
        rw [hxy]
        have HX := Lib.hid hxy
        clear hxy hv hdl hal hbl
        go_enter Try.func12, Try.ntmps12
        go_wp2_with (first | (go_at_call 13; refine (specGapValid_any _ _ _ hs).mono ?_; rw [H.out]; rintro e w1 ⟨rfl, hb1⟩; obtain ⟨hc1, hf1⟩ := bcell hb1; have hz1 := hb1.size; (try simp at hz1); (try replace hz1 := Nat.lt_of_succ_le hz1); (try have hy1w : w.heap.size < w1.heap.size := by omega); (try have hx1w : w.heap.size + 1 < w1.heap.size := by omega)) | (go_at_call 44; refine (specGapOf_any _ _ _ (by simp [maxLen]; omega)).mono ?_; rw [HX.out]; rintro e w2 ⟨rfl, hb2⟩; obtain ⟨hc2, hf2⟩ := bcell hb2; have hz2 := hb2.size; (try simp at hz2); (try replace hz2 := Nat.lt_of_succ_le hz2); (try have hy2w : w.heap.size < w2.heap.size := by omega); (try have hx2w : w.heap.size + 1 < w2.heap.size := by omega)))
        all_goals refine bodyPost_ret (v := .agg #[.string x, .string y]) (by simp [results, Try.results12, go_sem, hc1, hc2, hx1w]) rfl ⟨?_, (by repeat (first | exact Below.refl _ _ | assumption | (refine bstep ?_ (by assumption)) | refine balloc ?_ _ | refine bdrew ?_ | refine bdrewN ?_ _ | refine bset ?_ (by first | (simp; done) | (simp; omega)) _))⟩
        all_goals rfl
set_option maxHeartbeats 400000 in
theorem implGapErase_any (a b : ByteArray) (n : Int) (w : World) (hs : a.size + b.size ≤ 1099511627776) :
    Calls Try.prog 18 #[.agg #[.string a, .string b], .int .i64 n] w fun e w' => e = .returned (.tuple #[gapV (eraseR a.data.toList b.data.toList n).1, .bool (eraseR a.data.toList b.data.toList n).2]) ∧ Below w.heap.size w w' := by
  have ha1 : a.size ≤ 1099511627776 := by omega
  cases ht : tvB (a.data.toList ++ b.data.toList)
  · rw [eraseR_0 ht]
    have H := Lib.hid ht
    clear ht
    go_enter Try.func18, Try.ntmps18
    go_wp2_with (go_at_call 43; refine (implGapValid_any _ _ _ hs).mono ?_; rw [H.out]; rintro e w1 ⟨rfl, hb1⟩; obtain ⟨hc1, hf1⟩ := bcell hb1; have hz1 := hb1.size; (try simp at hz1); (try replace hz1 := Nat.lt_of_succ_le hz1); (try have hy1w : w.heap.size < w1.heap.size := by omega); (try have hx1w : w.heap.size + 1 < w1.heap.size := by omega))
    refine bodyPost_ret (v := .tuple #[.agg #[.string ⟨#[]⟩, .string ⟨#[]⟩], .bool false]) (by simp [results, Try.results18, go_sem, hc1]) rfl ⟨?_, (by repeat (first | exact Below.refl _ _ | assumption | (refine bstep ?_ (by assumption)) | refine balloc ?_ _ | refine bdrew ?_ | refine bdrewN ?_ _ | refine bset ?_ (by first | (simp; done) | (simp; omega)) _))⟩
    rfl
  · cases hn : inI n 0 (a.size : Int)
    · rw [eraseR_1 ht hn]
      have H := Lib.hid ht
      have HN := Lib.hid hn
      clear ht hn
      go_enter Try.func18, Try.ntmps18
      go_wp2_with (first | (go_at_call 43; refine (implGapValid_any _ _ _ hs).mono ?_; rw [H.out]; rintro e w1 ⟨rfl, hb1⟩; obtain ⟨hc1, hf1⟩ := bcell hb1; have hz1 := hb1.size; (try simp at hz1); (try replace hz1 := Nat.lt_of_succ_le hz1); (try have hy1w : w.heap.size < w1.heap.size := by omega); (try have hx1w : w.heap.size + 1 < w1.heap.size := by omega)) | (go_at_call 47; refine (in_any _ _ _ _).mono ?_; rw [HN.out]; rintro e w' ⟨rfl, rfl⟩))
      refine bodyPost_ret (v := .tuple #[.agg #[.string a, .string b], .bool false]) (by simp [results, Try.results18, go_sem, hc1]) rfl ⟨?_, (by repeat (first | exact Below.refl _ _ | assumption | (refine bstep ?_ (by assumption)) | refine balloc ?_ _ | refine bdrew ?_ | refine bdrewN ?_ _ | refine bset ?_ (by first | (simp; done) | (simp; omega)) _))⟩
      rfl
    · rw [eraseR_2 ht hn]
      have H := Lib.hid ht
      have HN := Lib.hid hn
      have hr := (inI_iff _ _ _).1 hn
      have HO := Lib.hid (extract_head a ((a.size : Int) - n).toNat)
      clear ht hn
      obtain ⟨hr1, hr2⟩ := hr
      go_enter Try.func18, Try.ntmps18
      go_wp2_with (first | (go_at_call 43; refine (implGapValid_any _ _ _ hs).mono ?_; rw [H.out]; rintro e w1 ⟨rfl, hb1⟩; obtain ⟨hc1, hf1⟩ := bcell hb1; have hz1 := hb1.size; (try simp at hz1); (try replace hz1 := Nat.lt_of_succ_le hz1); (try have hy1w : w.heap.size < w1.heap.size := by omega); (try have hx1w : w.heap.size + 1 < w1.heap.size := by omega)) | (go_at_call 47; refine (in_any _ _ _ _).mono ?_; rw [HN.out]; rintro e w' ⟨rfl, rfl⟩))
      go_region
      go_wp2
      refine bodyPost_ret (v := .tuple #[.agg #[.string (a.extract 0 ((a.size : Int) - n).toNat), .string b], .bool true]) (by simp [results, Try.results18, go_sem, hc1]) rfl ⟨?_, (by repeat (first | exact Below.refl _ _ | assumption | (refine bstep ?_ (by assumption)) | refine balloc ?_ _ | refine bdrew ?_ | refine bdrewN ?_ _ | refine bset ?_ (by first | (simp; done) | (simp; omega)) _))⟩
      unfold gapV
      rw [HO.out]
      rfl
set_option maxHeartbeats 400000 in
theorem implGapType_any (a b p : ByteArray) (w : World) (hs : a.size + b.size + p.size ≤ 1099511627776) :
    Calls Try.prog 22 #[.agg #[.string a, .string b], .string p] w fun e w' => e = .returned (.tuple #[gapV (typeR a.data.toList b.data.toList p.data.toList).1, .bool (typeR a.data.toList b.data.toList p.data.toList).2]) ∧ Below w.heap.size w w' := by
  cases ht : tvB (a.data.toList ++ b.data.toList)
  · rw [typeR_0 ht]
    have H := Lib.hid ht
    clear ht
    go_enter Try.func22, Try.ntmps22
    go_wp2_with (go_at_call 43; refine (implGapValid_any _ _ _ (by omega)).mono ?_; rw [H.out]; rintro e w1 ⟨rfl, hb1⟩; obtain ⟨hc1, hf1⟩ := bcell hb1; have hz1 := hb1.size; (try simp at hz1); (try replace hz1 := Nat.lt_of_succ_le hz1); (try have hy1w : w.heap.size < w1.heap.size := by omega); (try have hx1w : w.heap.size + 1 < w1.heap.size := by omega))
    refine bodyPost_ret (v := .tuple #[.agg #[.string ⟨#[]⟩, .string ⟨#[]⟩], .bool false]) (by simp [results, Try.results22, go_sem, hc1]) rfl ⟨?_, (by repeat (first | exact Below.refl _ _ | assumption | (refine bstep ?_ (by assumption)) | refine balloc ?_ _ | refine bdrew ?_ | refine bdrewN ?_ _ | refine bset ?_ (by first | (simp; done) | (simp; omega)) _))⟩
    rfl
  · have hap : tvB ((a ++ p).data.toList ++ b.data.toList) = tvB (a.data.toList ++ p.data.toList ++ b.data.toList) := by rw [append_mk]; rfl
    cases hn : tvB (a.data.toList ++ p.data.toList ++ b.data.toList)
    · rw [typeR_1 ht hn]
      rw [hn] at hap
      have H := Lib.hid ht
      have HN := Lib.hid hap
      clear ht hn hap
      go_enter Try.func22, Try.ntmps22
      go_wp2_with (go_at_call 43; refine (implGapValid_any _ _ _ (by omega)).mono ?_; rw [H.out]; rintro e w1 ⟨rfl, hb1⟩; obtain ⟨hc1, hf1⟩ := bcell hb1; have hz1 := hb1.size; (try simp at hz1); (try replace hz1 := Nat.lt_of_succ_le hz1); (try have hy1w : w.heap.size < w1.heap.size := by omega); (try have hx1w : w.heap.size + 1 < w1.heap.size := by omega))
      (go_at_call 43; refine (implGapValid_any _ _ _ (by simp; omega)).mono ?_; rw [HN.out]; rintro e w2 ⟨rfl, hb2⟩; obtain ⟨hc2, hf2⟩ := bcell hb2; have hz2 := hb2.size; (try simp at hz2); (try replace hz2 := Nat.lt_of_succ_le hz2); (try have hy2w : w.heap.size < w2.heap.size := by omega); (try have hx2w : w.heap.size + 1 < w2.heap.size := by omega))
      go_wp2
      refine bodyPost_ret (v := .tuple #[.agg #[.string a, .string b], .bool false]) (by simp [results, Try.results22, go_sem, hc1, hc2, hx1w, hy1w]) rfl ⟨?_, (by repeat (first | exact Below.refl _ _ | assumption | (refine bstep ?_ (by assumption)) | refine balloc ?_ _ | refine bdrew ?_ | refine bdrewN ?_ _ | refine bset ?_ (by first | (simp; done) | (simp; omega)) _))⟩
      rfl
    · rw [typeR_2 ht hn]
      rw [hn] at hap
      have H := Lib.hid ht
      have HN := Lib.hid hap
      have HO := Lib.hid (append_mk a p)
      clear ht hn hap
      go_enter Try.func22, Try.ntmps22
      go_wp2_with (go_at_call 43; refine (implGapValid_any _ _ _ (by omega)).mono ?_; rw [H.out]; rintro e w1 ⟨rfl, hb1⟩; obtain ⟨hc1, hf1⟩ := bcell hb1; have hz1 := hb1.size; (try simp at hz1); (try replace hz1 := Nat.lt_of_succ_le hz1); (try have hy1w : w.heap.size < w1.heap.size := by omega); (try have hx1w : w.heap.size + 1 < w1.heap.size := by omega))
      (go_at_call 43; refine (implGapValid_any _ _ _ (by simp; omega)).mono ?_; rw [HN.out]; rintro e w2 ⟨rfl, hb2⟩; obtain ⟨hc2, hf2⟩ := bcell hb2; have hz2 := hb2.size; (try simp at hz2); (try replace hz2 := Nat.lt_of_succ_le hz2); (try have hy2w : w.heap.size < w2.heap.size := by omega); (try have hx2w : w.heap.size + 1 < w2.heap.size := by omega))
      go_wp2
      refine bodyPost_ret (v := .tuple #[.agg #[.string (a ++ p), .string b], .bool true]) (by simp [results, Try.results22, go_sem, hc1, hc2, hx1w, hy1w]) rfl ⟨?_, (by repeat (first | exact Below.refl _ _ | assumption | (refine bstep ?_ (by assumption)) | refine balloc ?_ _ | refine bdrew ?_ | refine bdrewN ?_ _ | refine bset ?_ (by first | (simp; done) | (simp; omega)) _))⟩
      unfold gapV
      rw [HO.out]
      rfl
set_option maxHeartbeats 400000 in
theorem implGapMove_any (a b : ByteArray) (n : Int) (w : World) (hs : a.size + b.size ≤ 1099511627776) :
    Calls Try.prog 11 #[.agg #[.string a, .string b], .int .i64 n] w fun e w' => e = .returned (gapV (moveR a.data.toList b.data.toList n)) ∧ Below w.heap.size w w' := by
  have ha1 : a.size ≤ 1099511627776 := by omega
  have hb1 : b.size ≤ 1099511627776 := by omega
  cases ht : tvB (a.data.toList ++ b.data.toList)
  · rw [moveR_0 ht]
    have H := Lib.hid ht
    clear ht
    go_enter Try.func11, Try.ntmps11
    go_wp2_with (go_at_call 43; refine (implGapValid_any _ _ _ hs).mono ?_; rw [H.out]; rintro e w1 ⟨rfl, hb1⟩; obtain ⟨hc1, hf1⟩ := bcell hb1; have hz1 := hb1.size; (try simp at hz1); (try replace hz1 := Nat.lt_of_succ_le hz1); (try have hy1w : w.heap.size < w1.heap.size := by omega); (try have hx1w : w.heap.size + 1 < w1.heap.size := by omega))
    refine bodyPost_ret (v := .agg #[.string ⟨#[]⟩, .string ⟨#[]⟩]) (by simp [results, Try.results11, go_sem, hc1]) rfl ⟨?_, (by repeat (first | exact Below.refl _ _ | assumption | (refine bstep ?_ (by assumption)) | refine balloc ?_ _ | refine bdrew ?_ | refine bdrewN ?_ _ | refine bset ?_ (by first | (simp; done) | (simp; omega)) _))⟩
    rfl
  · rw [moveR_1 ht]
    have H := Lib.hid ht
    clear ht
    have hdl : (a ++ b).data.toList = a.data.toList ++ b.data.toList := by rw [append_mk]; rfl
    have hal : (a.data.toList.length : Int) = a.size := rfl
    have hbl : (b.data.toList.length : Int) = b.size := rfl
    by_cases h2 : n ≤ -(a.size : Int) ∨ (b.size : Int) ≤ -(a.size : Int)
    · have hv : (a.data.toList.length : Int) + max (-(a.data.toList.length : Int)) (min (b.data.toList.length : Int) n) = (a.size : Int) + -(a.size : Int) := by omega
      rw [hv, ← hdl]
      obtain ⟨x, y, hxy⟩ : ∃ x y, gapV (gapOfL (a ++ b).data.toList ((a.size : Int) + -(a.size : Int))) = .agg #[.string x, .string y] := ⟨_, _, rfl⟩
      rw [hxy]
      have HX := Lib.hid hxy
      clear hxy hv hdl hal hbl
      go_enter Try.func11, Try.ntmps11
      go_wp2_with (first | (go_at_call 43; refine (implGapValid_any _ _ _ hs).mono ?_; rw [H.out]; rintro e w1 ⟨rfl, hb1⟩; obtain ⟨hc1, hf1⟩ := bcell hb1; have hz1 := hb1.size; (try simp at hz1); (try replace hz1 := Nat.lt_of_succ_le hz1); (try have hy1w : w.heap.size < w1.heap.size := by omega); (try have hx1w : w.heap.size + 1 < w1.heap.size := by omega)) | (go_at_call 16; refine (implGapOf_any _ _ _ (by simp [maxLen]; omega)).mono ?_; rw [HX.out]; rintro e w2 ⟨rfl, hb2⟩; obtain ⟨hc2, hf2⟩ := bcell hb2; have hz2 := hb2.size; (try simp at hz2); (try replace hz2 := Nat.lt_of_succ_le hz2); (try have hy2w : w.heap.size < w2.heap.size := by omega); (try have hx2w : w.heap.size + 1 < w2.heap.size := by omega)))
      all_goals refine bodyPost_ret (v := .agg #[.string x, .string y]) (by simp [results, Try.results11, go_sem, hc1, hc2, hx1w]) rfl ⟨?_, (by repeat (first | exact Below.refl _ _ | assumption | (refine bstep ?_ (by assumption)) | refine balloc ?_ _ | refine bdrew ?_ | refine bdrewN ?_ _ | refine bset ?_ (by first | (simp; done) | (simp; omega)) _))⟩
      all_goals rfl
    · have h3 : -(a.size : Int) < n := by omega
      have h4 : -(a.size : Int) < (b.size : Int) := by omega
      clear h2
      by_cases h1 : (b.size : Int) ≤ n
      · have hv : (a.data.toList.length : Int) + max (-(a.data.toList.length : Int)) (min (b.data.toList.length : Int) n) = (a.size : Int) + b.size := by omega
        rw [hv, ← hdl]
        obtain ⟨x, y, hxy⟩ : ∃ x y, gapV (gapOfL (a ++ b).data.toList ((a.size : Int) + b.size)) = .agg #[.string x, .string y] := ⟨_, _, rfl⟩
        rw [hxy]
        have HX := Lib.hid hxy
        clear hxy hv hdl hal hbl
        go_enter Try.func11, Try.ntmps11
        go_wp2_with (first | (go_at_call 43; refine (implGapValid_any _ _ _ hs).mono ?_; rw [H.out]; rintro e w1 ⟨rfl, hb1⟩; obtain ⟨hc1, hf1⟩ := bcell hb1; have hz1 := hb1.size; (try simp at hz1); (try replace hz1 := Nat.lt_of_succ_le hz1); (try have hy1w : w.heap.size < w1.heap.size := by omega); (try have hx1w : w.heap.size + 1 < w1.heap.size := by omega)) | (go_at_call 16; refine (implGapOf_any _ _ _ (by simp [maxLen]; omega)).mono ?_; rw [HX.out]; rintro e w2 ⟨rfl, hb2⟩; obtain ⟨hc2, hf2⟩ := bcell hb2; have hz2 := hb2.size; (try simp at hz2); (try replace hz2 := Nat.lt_of_succ_le hz2); (try have hy2w : w.heap.size < w2.heap.size := by omega); (try have hx2w : w.heap.size + 1 < w2.heap.size := by omega)))
        all_goals refine bodyPost_ret (v := .agg #[.string x, .string y]) (by simp [results, Try.results11, go_sem, hc1, hc2, hx1w]) rfl ⟨?_, (by repeat (first | exact Below.refl _ _ | assumption | (refine bstep ?_ (by assumption)) | refine balloc ?_ _ | refine bdrew ?_ | refine bdrewN ?_ _ | refine bset ?_ (by first | (simp; done) | (simp; omega)) _))⟩
        all_goals rfl
      · have hv : (a.data.toList.length : Int) + max (-(a.data.toList.length : Int)) (min (b.data.toList.length : Int) n) = (a.size : Int) + n := by omega
        rw [hv, ← hdl]
        obtain ⟨x, y, hxy⟩ : ∃ x y, gapV (gapOfL (a ++ b).data.toList ((a.size : Int) + n)) = .agg #[.string x, .string y] := ⟨_, _, rfl⟩
        rw [hxy]
        have HX := Lib.hid hxy
        clear hxy hv hdl hal hbl
        go_enter Try.func11, Try.ntmps11
        go_wp2_with (first | (go_at_call 43; refine (implGapValid_any _ _ _ hs).mono ?_; rw [H.out]; rintro e w1 ⟨rfl, hb1⟩; obtain ⟨hc1, hf1⟩ := bcell hb1; have hz1 := hb1.size; (try simp at hz1); (try replace hz1 := Nat.lt_of_succ_le hz1); (try have hy1w : w.heap.size < w1.heap.size := by omega); (try have hx1w : w.heap.size + 1 < w1.heap.size := by omega)) | (go_at_call 16; refine (implGapOf_any _ _ _ (by simp [maxLen]; omega)).mono ?_; rw [HX.out]; rintro e w2 ⟨rfl, hb2⟩; obtain ⟨hc2, hf2⟩ := bcell hb2; have hz2 := hb2.size; (try simp at hz2); (try replace hz2 := Nat.lt_of_succ_le hz2); (try have hy2w : w.heap.size < w2.heap.size := by omega); (try have hx2w : w.heap.size + 1 < w2.heap.size := by omega)))
        all_goals refine bodyPost_ret (v := .agg #[.string x, .string y]) (by simp [results, Try.results11, go_sem, hc1, hc2, hx1w]) rfl ⟨?_, (by repeat (first | exact Below.refl _ _ | assumption | (refine bstep ?_ (by assumption)) | refine balloc ?_ _ | refine bdrew ?_ | refine bdrewN ?_ _ | refine bset ?_ (by first | (simp; done) | (simp; omega)) _))⟩
        all_goals rfl
end Go.Proofs.Ytlndlgbpnlfflaa
