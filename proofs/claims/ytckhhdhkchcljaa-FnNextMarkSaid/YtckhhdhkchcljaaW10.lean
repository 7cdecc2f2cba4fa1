/- Contracts of MarksValid. -/
import Derived.Test.YtckhhdhkchcljaaW2
import Derived.Test.YtckhhdhkchcljaaPm
namespace Go.Proofs.Ytckhhdhkchcljaa
open Go.RowKit

set_option maxHeartbeats 400000 in
theorem specMarksValid_any (s : ByteArray) (A : Option Addr) (n c : Nat) (ms : List (Int × Bool)) (w : World) (hs : s.size ≤ maxLen) (hn2 : n ≤ 1048576) (hr : Marks w w.heap.size A n ms) :
    Calls Try.prog 26 #[.string s, .slice A n c] w fun e w' => e = .returned (.bool (marksB s.data.toList ms)) ∧ w = w' := by
  go_enter Try.func26, Try.ntmps26
  go_wp2
  go_loop [5] (fun i => ∃ k : Nat, k ≤ n ∧ i = .int .i64 k ∧ Hid (placesB s.size (ms.take k) = true)) (fun i => n - (intOf i).toNat)
  case atStart => exact ⟨0, Nat.zero_le _, rfl, rfl⟩
  case round =>
    obtain ⟨k, hk, rfl, Hp⟩ := hrel
    by_cases hlt : k < n
    · obtain ⟨ad, p, b, rfl, hb, hms, hc0, hc1, hc2⟩ := hr.at_ hlt
      have HM := Lib.hid hms
      clear hms hc1 hc2
      cases hp : inI p 0 (s.size : Int)
      · have HI := Lib.hid hp
        clear hp
        go_wp2_with (go_at_call 67; refine (l1In_any _ _ _ _).mono ?_; rw [HI.out]; rintro e w' ⟨rfl, rfl⟩)
        go_ret
        exact ⟨ret_bool (marksB_0 (placesB_stop HM.out HI.out)).symm, rfl⟩
      · have HI := Lib.hid hp
        clear hp
        go_wp2_with (go_at_call 67; refine (l1In_any _ _ _ _).mono ?_; rw [HI.out]; rintro e w' ⟨rfl, rfl⟩)
        go_round
        case rel => exact ⟨k + 1, by omega, by go_num, placesB_step HM.out Hp.out HI.out⟩
        case measure => simp [intOf]; omega
    · have hl := hr.1
      have hm := marksB_1 (l := s.data.toList) (placesB_end (k := k) (by omega) Hp.out)
      rw [hl] at hm
      cases ht : tvB s.data.toList
      · rw [ht, Bool.false_and] at hm
        have HM := Lib.hid hm
        have HT := Lib.hid ht
        clear hm ht hl
        go_wp2_with (go_at_call 23; refine (specTextValid_any _ _ hs).mono ?_; rw [HT.out]; rintro e w' ⟨rfl, rfl⟩)
        go_ret
        exact ⟨ret_bool HM.out.symm, rfl⟩
      · rw [ht, Bool.true_and] at hm
        have HM := Lib.hid hm
        have HT := Lib.hid ht
        clear hm ht hl
        go_wp2_with (go_at_call 23; refine (specTextValid_any _ _ hs).mono ?_; rw [HT.out]; rintro e w' ⟨rfl, rfl⟩)
        go_ret
        exact ⟨ret_bool HM.out.symm, rfl⟩
set_option maxHeartbeats 400000 in
theorem implMarksValid_any (s : ByteArray) (A : Option Addr) (n c : Nat) (ms : List (Int × Bool)) (w : World) (hs : s.size ≤ maxLen) (hn2 : n ≤ 1048576) (hr : Marks w w.heap.size A n ms) :
    Calls Try.prog 25 #[.string s, .slice A n c] w fun e w' => e = .returned (.bool (marksB s.data.toList ms)) ∧ Below w.heap.size w w' := by
  go_enter Try.func25, Try.ntmps25
  go_wp2
  go_loopw [9] (fun i wr => ∃ k : Nat, k ≤ n ∧ i = .int .i64 k ∧ Hid (placesB s.size (ms.take k) = true) ∧ Hid (0 < k → tvB s.data.toList = true) ∧ Below w.heap.size w wr) (fun i _ => n - (intOf i).toNat)
  case atStart => exact ⟨0, Nat.zero_le _, rfl, rfl, fun h => absurd h (by omega), Below.refl _ _⟩
  case round =>
    obtain ⟨k, hk, rfl, Hp, Ht, hbw⟩ := hrel
    have hz := hbw.size
    by_cases hlt : k < n
    · obtain ⟨ad, p, b, rfl, hb, hms, hc0, hc1, hc2⟩ := (hr.below hbw (Nat.le_refl _)).at_ hlt
      have HM := Lib.hid hms
      clear hms
      cases hp : placeB s.data.toList p
      · have HI := Lib.hid hp
        clear hp
        go_wp2_with (go_at_call 66; refine (isPlace_any _ _ _ hs).mono ?_; rw [HI.out]; rintro e w' ⟨rfl, rfl⟩)
        go_ret
        exact ⟨ret_bool (marksB_place HM.out HI.out).symm, (by repeat (first | exact Below.refl _ _ | assumption | (refine bstep ?_ (by assumption)) | refine balloc ?_ _ | refine bdrew ?_ | refine bdrewN ?_ _ | refine bset ?_ (by first | (simp; done) | (simp; omega)) _))⟩
      · have HI := Lib.hid hp
        clear hp
        go_wp2_with (go_at_call 66; refine (isPlace_any _ _ _ hs).mono ?_; rw [HI.out]; rintro e w' ⟨rfl, rfl⟩)
        go_roundw
        case rel => exact ⟨k + 1, by omega, by go_num, placesB_step HM.out Hp.out (placeB_in HI.out), fun _ => placeB_tv HI.out, (by repeat (first | exact Below.refl _ _ | assumption | (refine bstep ?_ (by assumption)) | refine balloc ?_ _ | refine bdrew ?_ | refine bdrewN ?_ _ | refine bset ?_ (by first | (simp; done) | (simp; omega)) _))⟩
        case measure => simp [intOf]; omega
    · have hl := hr.1
      have hm := marksB_1 (l := s.data.toList) (placesB_end (k := k) (by omega) Hp.out)
      rw [hl] at hm
      cases ht : tvB s.data.toList
      · rw [ht, Bool.false_and] at hm
        have HM := Lib.hid hm
        have HT := Lib.hid ht
        clear hm ht hl
        go_wp2_with (go_at_call 57; refine (implTextValid_any _ _ hs).mono ?_; rw [HT.out]; rintro e w' ⟨rfl, rfl⟩)
        go_ret
        exact ⟨ret_bool HM.out.symm, hbw⟩
      · rw [ht, Bool.true_and] at hm
        have HM := Lib.hid hm
        have HT := Lib.hid ht
        clear hm ht hl
        go_wp2_with (go_at_call 57; refine (implTextValid_any _ _ hs).mono ?_; rw [HT.out]; rintro e w' ⟨rfl, rfl⟩)
        go_ret
        exact ⟨ret_bool HM.out.symm, hbw⟩
end Go.Proofs.Ytckhhdhkchcljaa
