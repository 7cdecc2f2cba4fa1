/- Contracts of the functions that apply a change, or say whether it is possible. -/
import Derived.Test.YtckhhdhkchcljaaW2
import Derived.Deep.QuietTactic
import Derived.BigQuiet
namespace Go.Proofs.Ytckhhdhkchcljaa
open Go.RowKit

theorem apply_no (a c : Int) (p s : ByteArray) (w : World) (hs : s.size ≤ maxLen) (h : cutB s.data.toList a c = false) :
    Calls Try.prog 58 #[.agg #[.int .i64 a, .int .i64 c, .string p], .string s] w fun e w' => e = .returned (.tuple #[.string ByteArray.empty, .bool false]) ∧ Below w.heap.size w w' := by
  have hs' := hs
  unfold maxLen at hs'
  cases hp : placeB s.data.toList a
  · have H := Lib.hid hp
    clear hp h
    go_enter Try.func58, Try.ntmps58
    go_wp2_with (go_at_call 66; refine (isPlace_any _ _ _ hs).mono ?_; rw [H.out]; rintro e w' ⟨rfl, rfl⟩)
    go_returns
    exact ⟨rfl, (by repeat (first | exact Below.refl _ _ | assumption | (refine bstep ?_ (by assumption)) | refine balloc ?_ _ | refine bdrew ?_ | refine bdrewN ?_ _ | refine bset ?_ (by first | (simp; done) | (simp; omega)) _))⟩
  · have hr := placeB_range hp
    rw [cutB_yes hp] at h
    have H := Lib.hid hp
    have HC := Lib.hid h
    clear hp h
    obtain ⟨hr1, hr2⟩ := hr
    go_enter Try.func58, Try.ntmps58
    go_wp2_with (first | (go_at_call 66; refine (isPlace_any _ _ _ hs).mono ?_; rw [H.out]; rintro e w' ⟨rfl, rfl⟩) | (go_at_call 59; refine (in_any _ _ _ _).mono ?_; rw [HC.out]; rintro e w' ⟨rfl, rfl⟩))
    go_returns
    exact ⟨rfl, (by repeat (first | exact Below.refl _ _ | assumption | (refine bstep ?_ (by assumption)) | refine balloc ?_ _ | refine bdrew ?_ | refine bdrewN ?_ _ | refine bset ?_ (by first | (simp; done) | (simp; omega)) _))⟩
set_option maxHeartbeats 400000 in
theorem apply_yes (a c : Int) (p s : ByteArray) (w : World) (hs : s.size + p.size ≤ 1099511627776) (h : cutB s.data.toList a c = true) :
    Calls Try.prog 58 #[.agg #[.int .i64 a, .int .i64 c, .string p], .string s] w fun e w' => e = .returned (.tuple #[.string (mk (outL s.data.toList a c p.data.toList)), .bool (fitsB s.data.toList a c p.data.toList)]) ∧ Below w.heap.size w w' := by
  have hs1 : s.size ≤ maxLen := by unfold maxLen; omega
  have hr := cutB_range h
  have hp : placeB s.data.toList a = true := by
    unfold cutB at h
    rw [Bool.and_eq_true] at h
    exact h.1
  have hl : (mk (outL s.data.toList a c p.data.toList)).size ≤ maxLen := by
    have h1 := outL_length (l := s.data.toList) (p := p.data.toList) hr.1 hr.2.2.1 hr.2.2.2
    have e1 : (s.data.toList.length : Int) = s.size := rfl
    have e2 : (p.data.toList.length : Int) = p.size := rfl
    rw [mk_size]
    unfold maxLen
    omega
  have hfit := fitsB_yes (p := p.data.toList) h
  rw [cutB_yes hp] at h
  have H := Lib.hid hp
  have HC := Lib.hid h
  have hft : tvB (s.extract 0 a.toNat ++ p ++ s.extract (a + c).toNat s.size).data.toList = fitsB s.data.toList a c p.data.toList := by
    rw [hfit, out_walk, mk_data]
  have HF := Lib.hid hft
  have HO := Lib.hid (out_walk s p a c)
  rw [← out_walk] at hl
  clear hp h hfit hft
  obtain ⟨hr1, hr2, hr3, hr4⟩ := hr
  go_enter Try.func58, Try.ntmps58
  go_wp2_with (first | (go_at_call 66; refine (isPlace_any _ _ _ hs1).mono ?_; rw [H.out]; rintro e w' ⟨rfl, rfl⟩) | (go_at_call 59; refine (in_any _ _ _ _).mono ?_; rw [HC.out]; rintro e w' ⟨rfl, rfl⟩))
  go_quiet (fail)
  go_wp2_with (go_at_call 57; refine (implTextValid_any _ _ hl).mono ?_; rw [HF.out]; rintro e w' ⟨rfl, rfl⟩)
  go_returns
  exact ⟨by rw [HO.out]; rfl, (by repeat (first | exact Below.refl _ _ | assumption | (refine bstep ?_ (by assumption)) | refine balloc ?_ _ | refine bdrew ?_ | refine bdrewN ?_ _ | refine bset ?_ (by first | (simp; done) | (simp; omega)) _))⟩
theorem implChangeFits_any (s : ByteArray) (a c : Int) (p : ByteArray) (w : World) (hs : s.size + p.size ≤ 1099511627776) :
    Calls Try.prog 55 #[.string s, .agg #[.int .i64 a, .int .i64 c, .string p]] w fun e w' => e = .returned (.bool (fitsB s.data.toList a c p.data.toList)) ∧ Below w.heap.size w w' := by
  have hs1 : s.size ≤ maxLen := by unfold maxLen; omega
  cases h : cutB s.data.toList a c
  · rw [fitsB_no h]
    have H := Lib.hid h
    clear h
    go_enter Try.func55, Try.ntmps55
    go_wp2_with (go_at_call 58; refine (apply_no _ _ _ _ _ hs1 H.out).mono ?_; rintro e w1 ⟨rfl, hb1⟩; obtain ⟨hc1, hf1⟩ := bcell hb1; have hz1 := hb1.size; (try simp at hz1); (try replace hz1 := Nat.lt_of_succ_le hz1); (try have hy1w : w.heap.size < w1.heap.size := by omega); (try have hx1w : w.heap.size + 1 < w1.heap.size := by omega))
    go_returns
    exact ⟨rfl, (by repeat (first | exact Below.refl _ _ | assumption | (refine bstep ?_ (by assumption)) | refine balloc ?_ _ | refine bdrew ?_ | refine bdrewN ?_ _ | refine bset ?_ (by first | (simp; done) | (simp; omega)) _))⟩
  · have H := Lib.hid h
    clear h
    go_enter Try.func55, Try.ntmps55
    go_wp2_with (go_at_call 58; refine (apply_yes _ _ _ _ _ hs H.out).mono ?_; rintro e w1 ⟨rfl, hb1⟩; obtain ⟨hc1, hf1⟩ := bcell hb1; have hz1 := hb1.size; (try simp at hz1); (try replace hz1 := Nat.lt_of_succ_le hz1); (try have hy1w : w.heap.size < w1.heap.size := by omega); (try have hx1w : w.heap.size + 1 < w1.heap.size := by omega))
    go_returns
    exact ⟨rfl, (by repeat (first | exact Below.refl _ _ | assumption | (refine bstep ?_ (by assumption)) | refine balloc ?_ _ | refine bdrew ?_ | refine bdrewN ?_ _ | refine bset ?_ (by first | (simp; done) | (simp; omega)) _))⟩
theorem specChangeFits_any (s : ByteArray) (a c : Int) (p : ByteArray) (w : World) (hs : s.size + p.size ≤ 1099511627776) :
    Calls Try.prog 56 #[.string s, .agg #[.int .i64 a, .int .i64 c, .string p]] w fun e w' => e = .returned (.bool (fitsB s.data.toList a c p.data.toList)) ∧ Below w.heap.size w w' := by
  have hs1 : s.size ≤ maxLen := by unfold maxLen; omega
  have hp1 : p.size ≤ maxLen := by unfold maxLen; omega
  cases ht : tvB s.data.toList
  · rw [fitsB_no (cutB_no (placeB_no ht))]
    have H := Lib.hid ht
    clear ht
    go_enter Try.func56, Try.ntmps56
    go_wp2_with (go_at_call 23; refine (specTextValid_any _ _ hs1).mono ?_; rw [H.out]; rintro e w' ⟨rfl, rfl⟩)
    go_returns
    exact ⟨rfl, (by repeat (first | exact Below.refl _ _ | assumption | (refine bstep ?_ (by assumption)) | refine balloc ?_ _ | refine bdrew ?_ | refine bdrewN ?_ _ | refine bset ?_ (by first | (simp; done) | (simp; omega)) _))⟩
  · have H := Lib.hid ht
    cases ha : inI a 0 (s.size : Int)
    · rw [fitsB_no (cutB_no (by rw [placeB_yes ht]; exact ha))]
      have HA := Lib.hid ha
      clear ht ha
      go_enter Try.func56, Try.ntmps56
      go_wp2_with (first | (go_at_call 23; refine (specTextValid_any _ _ hs1).mono ?_; rw [H.out]; rintro e w' ⟨rfl, rfl⟩) | (go_at_call 67; refine (l1In_any _ _ _ _).mono ?_; rw [HA.out]; rintro e w' ⟨rfl, rfl⟩))
      go_returns
      exact ⟨rfl, (by repeat (first | exact Below.refl _ _ | assumption | (refine bstep ?_ (by assumption)) | refine balloc ?_ _ | refine bdrew ?_ | refine bdrewN ?_ _ | refine bset ?_ (by first | (simp; done) | (simp; omega)) _))⟩
    · have hp : placeB s.data.toList a = true := by rw [placeB_yes ht]; exact ha
      have HA := Lib.hid ha
      rw [inI_iff] at ha
      obtain ⟨ha1, ha2⟩ := ha
      cases hc : inI c 0 ((s.size : Int) - a)
      · rw [fitsB_no (by rw [cutB_yes hp]; exact hc)]
        have HC := Lib.hid hc
        clear ht hc hp
        go_enter Try.func56, Try.ntmps56
        go_wp2_with (first | (go_at_call 23; refine (specTextValid_any _ _ hs1).mono ?_; rw [H.out]; rintro e w' ⟨rfl, rfl⟩) | (go_at_call 67; refine (l1In_any _ _ _ _).mono ?_; (first | rw [HA.out] | rw [HC.out]); rintro e w' ⟨rfl, rfl⟩))
        go_returns
        exact ⟨rfl, (by repeat (first | exact Below.refl _ _ | assumption | (refine bstep ?_ (by assumption)) | refine balloc ?_ _ | refine bdrew ?_ | refine bdrewN ?_ _ | refine bset ?_ (by first | (simp; done) | (simp; omega)) _))⟩
      · have hcut : cutB s.data.toList a c = true := by rw [cutB_yes hp]; exact hc
        rw [fitsB_yes hcut, fits_spec hcut]
        have HC := Lib.hid hc
        rw [inI_iff] at hc
        obtain ⟨hc1, hc2⟩ := hc
        clear ht hp hcut
        cases hpl : plain p.data.toList
        · have HP := Lib.hid hpl
          clear hpl
          go_enter Try.func56, Try.ntmps56
          go_wp2_with (first | (go_at_call 23; refine (specTextValid_any _ _ hs1).mono ?_; rw [H.out]; rintro e w' ⟨rfl, rfl⟩) | (go_at_call 67; refine (l1In_any _ _ _ _).mono ?_; (first | rw [HA.out] | rw [HC.out]); rintro e w' ⟨rfl, rfl⟩) | (go_at_call 64; refine (l1Plain_any _ _ hp1).mono ?_; rw [HP.out]; rintro e w' ⟨rfl, rfl⟩))
          go_returns
          exact ⟨rfl, (by repeat (first | exact Below.refl _ _ | assumption | (refine bstep ?_ (by assumption)) | refine balloc ?_ _ | refine bdrew ?_ | refine bdrewN ?_ _ | refine bset ?_ (by first | (simp; done) | (simp; omega)) _))⟩
        · have HP := Lib.hid hpl
          clear hpl
          go_enter Try.func56, Try.ntmps56
          go_wp2_with (first | (go_at_call 23; refine (specTextValid_any _ _ hs1).mono ?_; rw [H.out]; rintro e w' ⟨rfl, rfl⟩) | (go_at_call 67; refine (l1In_any _ _ _ _).mono ?_; (first | rw [HA.out] | rw [HC.out]); rintro e w' ⟨rfl, rfl⟩) | (go_at_call 64; refine (l1Plain_any _ _ hp1).mono ?_; rw [HP.out]; rintro e w' ⟨rfl, rfl⟩))
          go_returns
          exact ⟨ret_bool (by rw [Bool.true_and]), (by repeat (first | exact Below.refl _ _ | assumption | (refine bstep ?_ (by assumption)) | refine balloc ?_ _ | refine bdrew ?_ | refine bdrewN ?_ _ | refine bset ?_ (by first | (simp; done) | (simp; omega)) _))⟩
end Go.Proofs.Ytckhhdhkchcljaa
