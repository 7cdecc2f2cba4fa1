/- Contracts of NextMark. -/
import Derived.Test.YtckhhdhkchcljaaW10
import Derived.Deep.QuietTactic
import Derived.BigQuiet
namespace Go.Proofs.Ytckhhdhkchcljaa
open Go.RowKit

set_option maxHeartbeats 1000000 in
theorem specNextMark_any (s : ByteArray) (A : Option Addr) (n c : Nat) (ms : List (Int × Bool)) (pl : Int) (w : World) (hs : s.size ≤ maxLen) (hn2 : n ≤ 1048576) (hr : Marks w w.heap.size A n ms) :
    Calls Try.prog 29 #[.string s, .slice A n c, .int .i64 pl] w fun e w' => e = .returned (.int .i64 (nextR s.data.toList ms pl)) ∧ Below w.heap.size w w' := by
  cases hv : marksB s.data.toList ms
  · rw [nextR_0 hv]
    have HV := Lib.hid hv
    clear hv
    go_enter Try.func29, Try.ntmps29
    go_wp2
    refine wp_loop_rounds 1 ?_
    rw [rounds_succ]
    by_cases h0 : 0 < n
    · go_wp2_with (go_at_call 26; refine (specMarksValid_any _ _ _ _ _ _ hs hn2 hr).mono ?_; rw [HV.out]; rintro e w' ⟨rfl, rfl⟩)
      go_ret
      exact ⟨rfl, Below.refl _ _⟩
    · go_wp2
      go_ret
      exact ⟨rfl, Below.refl _ _⟩
  · rw [nextR_1 hv, hr.1]
    have HV := Lib.hid hv
    clear hv
    go_enter Try.func29, Try.ntmps29
    go_wp2
    go_loopw [7, 8] (fun bb i wr => ∃ (k q : Nat) (j : Int), k ≤ n ∧ i = .int .i64 k ∧ bb = .int .i64 j ∧ -1 ≤ j ∧ j < k ∧ Hid (bestN ms pl k = j) ∧ wr = w.drewN q) (fun _ i _ => n - (intOf i).toNat)
    case atStart => exact ⟨0, 0, -1, Nat.zero_le _, rfl, rfl, by omega, by omega, rfl, rfl⟩
    case round =>
      obtain ⟨k, q, j, hk, rfl, rfl, hj1, hj2, Hb, rfl⟩ := hrel
      have hrq : Marks (w.drewN q) (w.drewN q).heap.size A n ms := hr
      by_cases hlt : k < n
      · obtain ⟨ad, p, b, hA, hb, hms, hc0, hc1, hc2⟩ := hr.at_ hlt
        subst hA
        have HM := Lib.hid hms
        clear hms hc1 hc2
        by_cases hg : pl < p
        · by_cases hj : j < 0
          · go_wp2_with (go_at_call 26; refine (specMarksValid_any _ _ _ _ _ _ hs hn2 hrq).mono ?_; rw [HV.out]; rintro e w' ⟨rfl, rfl⟩)
            go_quiet (fail)
            go_wp2
            go_roundw
            case rel => exact ⟨k + 1, q + nq, k, by omega, by go_num, rfl, by omega, by omega, bestN_first HM.out hg Hb.out hj, rfl⟩
            case measure => simp [intOf]; omega
          · obtain ⟨J, rfl⟩ := Int.eq_ofNat_of_zero_le (by omega : 0 ≤ j)
            obtain ⟨ad', p', b', hA', hb', hms', hc0', hc1', hc2'⟩ := hr.at_ (k := J) (by omega)
            injection hA' with hA'
            subst hA'
            have HM' := Lib.hid hms'
            clear hms' hc1' hc2'
            have hd2 : decide ((J : Int) < 0) = false := by simp
            have hJn : (J : Int) < (n : Int) := by omega
            have hJn' : J < n := by omega
            go_wp2_with (go_at_call 26; refine (specMarksValid_any _ _ _ _ _ _ hs hn2 hrq).mono ?_; rw [HV.out]; rintro e w' ⟨rfl, rfl⟩)
            go_quiet (fail)
            go_wp2
            · go_roundw
              case rel => exact ⟨k + 1, q + nq, k, by omega, by go_num, rfl, by omega, by omega, bestN_less HM.out hg Hb.out HM'.out (by assumption), rfl⟩
              case measure => simp [intOf]; omega
            · go_roundw
              case rel => exact ⟨k + 1, q + nq, J, by omega, by go_num, rfl, by omega, by omega, bestN_more HM.out Hb.out HM'.out (by assumption), rfl⟩
              case measure => simp [intOf]; omega
        · have hd : decide (pl < p) = false := by simpa using hg
          go_wp2_with (go_at_call 26; refine (specMarksValid_any _ _ _ _ _ _ hs hn2 hrq).mono ?_; rw [HV.out]; rintro e w' ⟨rfl, rfl⟩)
          go_quiet (fail)
          go_wp2
          go_roundw
          case rel => exact ⟨k + 1, q + nq, j, by omega, by go_num, rfl, by omega, by omega, bestN_keep HM.out (by omega) Hb.out, rfl⟩
          case measure => simp [intOf]; omega
      · have hkn : k = n := by omega
        subst hkn
        go_wp2
        go_ret
        exact ⟨ret_int Hb.out.symm, (by repeat (first | exact Below.refl _ _ | assumption | (refine bstep ?_ (by assumption)) | refine balloc ?_ _ | refine bdrew ?_ | refine bdrewN ?_ _ | refine bset ?_ (by first | (simp; done) | (simp; omega)) _))⟩
set_option maxHeartbeats 1000000 in
theorem implNextMark_any (s : ByteArray) (A : Option Addr) (n c : Nat) (ms : List (Int × Bool)) (pl : Int) (w : World) (hs : s.size ≤ maxLen) (hn2 : n ≤ 1048576) (hr : Marks w w.heap.size A n ms) :
    Calls Try.prog 28 #[.string s, .slice A n c, .int .i64 pl] w fun e w' => e = .returned (.int .i64 (nextR s.data.toList ms pl)) ∧ Below w.heap.size w w' := by
  cases hv : marksB s.data.toList ms
  · rw [nextR_0 hv]
    have HV := Lib.hid hv
    clear hv
    go_enter Try.func28, Try.ntmps28
    go_wp2_with (go_at_call 25; refine (implMarksValid_any _ _ _ _ _ _ hs hn2 hr).mono ?_; rw [HV.out]; rintro e w1 ⟨rfl, hb1⟩; obtain ⟨hc1, hf1⟩ := bcell hb1; have hz1 := hb1.size; (try simp at hz1); (try replace hz1 := Nat.lt_of_succ_le hz1); (try have hy1w : w.heap.size < w1.heap.size := by omega); (try have hx1w : w.heap.size + 1 < w1.heap.size := by omega))
    go_ret
    exact ⟨rfl, (by repeat (first | exact Below.refl _ _ | assumption | (refine bstep ?_ (by assumption)) | refine balloc ?_ _ | refine bdrew ?_ | refine bdrewN ?_ _ | refine bset ?_ (by first | (simp; done) | (simp; omega)) _))⟩
  · rw [nextR_1 hv, hr.1]
    have HV := Lib.hid hv
    clear hv
    go_enter Try.func28, Try.ntmps28
    go_wp2_with (go_at_call 25; refine (implMarksValid_any _ _ _ _ _ _ hs hn2 hr).mono ?_; rw [HV.out]; rintro e w1 ⟨rfl, hb1⟩; obtain ⟨hc1, hf1⟩ := bcell hb1; have hz1 := hb1.size; (try simp at hz1); (try replace hz1 := Nat.lt_of_succ_le hz1); (try have hy1w : w.heap.size < w1.heap.size := by omega); (try have hx1w : w.heap.size + 1 < w1.heap.size := by omega))
    clear hc1 hf1 hz1
    go_loopw [7, 16] (fun bb i wr => ∃ (k : Nat) (j : Int), k ≤ n ∧ i = .int .i64 k ∧ bb = .int .i64 j ∧ -1 ≤ j ∧ j < k ∧ Hid (bestN ms pl k = j) ∧ Below w.heap.size w wr) (fun _ i _ => n - (intOf i).toNat)
    case atStart => exact ⟨0, -1, Nat.zero_le _, rfl, rfl, by omega, by omega, rfl, hb1⟩
    case round =>
      clear hb1
      obtain ⟨k, j, hk, rfl, rfl, hj1, hj2, Hb, hbw⟩ := hrel
      have hz := hbw.size
      by_cases hlt : k < n
      · obtain ⟨ad, p, b, hA, hb, hms, hc0, hc1, hc2⟩ := (hr.below hbw (Nat.le_refl _)).at_ hlt
        subst hA
        have HM := Lib.hid hms
        clear hms
        by_cases hg : pl < p
        · by_cases hj : j < 0
          · go_wp2_with fail
            go_quiet (fail)
            go_wp2
            go_roundw
            case rel => exact ⟨k + 1, k, by omega, by go_num, rfl, by omega, by omega, bestN_first HM.out hg Hb.out hj, (by repeat (first | exact Below.refl _ _ | assumption | (refine bstep ?_ (by assumption)) | refine balloc ?_ _ | refine bdrew ?_ | refine bdrewN ?_ _ | refine bset ?_ (by first | (simp; done) | (simp; omega)) _))⟩
            case measure => simp [intOf]; omega
          · obtain ⟨J, rfl⟩ := Int.eq_ofNat_of_zero_le (by omega : 0 ≤ j)
            obtain ⟨ad', p', b', hA', hb', hms', hc0', hc1', hc2'⟩ := (hr.below hbw (Nat.le_refl _)).at_ (k := J) (by omega)
            injection hA' with hA'
            subst hA'
            have HM' := Lib.hid hms'
            clear hms' hc1' hc2'
            have hd2 : decide ((J : Int) < 0) = false := by simp
            have hJn : (J : Int) < (n : Int) := by omega
            have hJn' : J < n := by omega
            have hne : (ad.add (J * 2)).block < wr.heap.size := by rw [add_block]; omega
            go_wp2_with fail
            go_quiet (fail)
            go_wp2
            · go_roundw
              case rel => exact ⟨k + 1, k, by omega, by go_num, rfl, by omega, by omega, bestN_less HM.out hg Hb.out HM'.out (by assumption), (by repeat (first | exact Below.refl _ _ | assumption | (refine bstep ?_ (by assumption)) | refine balloc ?_ _ | refine bdrew ?_ | refine bdrewN ?_ _ | refine bset ?_ (by first | (simp; done) | (simp; omega)) _))⟩
              case measure => simp [intOf]; omega
            · go_roundw
              case rel => exact ⟨k + 1, J, by omega, by go_num, rfl, by omega, by omega, bestN_more HM.out Hb.out HM'.out (by assumption), (by repeat (first | exact Below.refl _ _ | assumption | (refine bstep ?_ (by assumption)) | refine balloc ?_ _ | refine bdrew ?_ | refine bdrewN ?_ _ | refine bset ?_ (by first | (simp; done) | (simp; omega)) _))⟩
              case measure => simp [intOf]; omega
        · have hd : decide (pl < p) = false := by simpa using hg
          go_wp2_with fail
          go_quiet (fail)
          go_wp2
          go_roundw
          case rel => exact ⟨k + 1, j, by omega, by go_num, rfl, by omega, by omega, bestN_keep HM.out (by omega) Hb.out, (by repeat (first | exact Below.refl _ _ | assumption | (refine bstep ?_ (by assumption)) | refine balloc ?_ _ | refine bdrew ?_ | refine bdrewN ?_ _ | refine bset ?_ (by first | (simp; done) | (simp; omega)) _))⟩
          case measure => simp [intOf]; omega
      · have hkn : k = n := by omega
        subst hkn
        go_wp2
        go_ret
        exact ⟨ret_int Hb.out.symm, (by repeat (first | exact Below.refl _ _ | assumption | (refine bstep ?_ (by assumption)) | refine balloc ?_ _ | refine bdrew ?_ | refine bdrewN ?_ _ | refine bset ?_ (by first | (simp; done) | (simp; omega)) _))⟩
end Go.Proofs.Ytckhhdhkchcljaa
