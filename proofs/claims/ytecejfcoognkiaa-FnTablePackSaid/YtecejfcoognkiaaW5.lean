/- Contracts of the functions that apply a change, or say whether it is possible. -/
import Derived.Test.YtecejfcoognkiaaW2
import Derived.Deep.QuietTactic
import Derived.BigQuiet
namespace Go.Proofs.Ytecejfcoognkiaa
open Go.RowKit

theorem specChangeFits_any (s : ByteArray) (a c : Int) (p : ByteArray) (w : World) (hs : s.size + p.size ≤ 1099511627776) :
    Calls Try.prog 39 #[.string s, .agg #[.int .i64 a, .int .i64 c, .string p]] w fun e w' => e = .returned (.bool (fitsB s.data.toList a c p.data.toList)) ∧ Below w.heap.size w w' := by
  have hs1 : s.size ≤ maxLen := by unfold maxLen; omega
  have hp1 : p.size ≤ maxLen := by unfold maxLen; omega
  cases ht : tvB s.data.toList
  · rw [fitsB_no (cutB_no (placeB_no ht))]
    have H := Lib.hid ht
    clear ht
    go_enter Try.func39, Try.ntmps39
    go_wp2_with (go_at_call 23; refine (specTextValid_any _ _ hs1).mono ?_; rw [H.out]; rintro e w' ⟨rfl, rfl⟩)
    go_returns
    exact ⟨rfl, (by repeat (first | exact Below.refl _ _ | assumption | (refine bstep ?_ (by assumption)) | refine balloc ?_ _ | refine bdrew ?_ | refine bdrewN ?_ _ | refine bset ?_ (by first | (simp; done) | (simp; omega)) _))⟩
  · have H := Lib.hid ht
    cases ha : inI a 0 (s.size : Int)
    · rw [fitsB_no (cutB_no (by rw [placeB_yes ht]; exact ha))]
      have HA := Lib.hid ha
      clear ht ha
      go_enter Try.func39, Try.ntmps39
      go_wp2_with (first | (go_at_call 23; refine (specTextValid_any _ _ hs1).mono ?_; rw [H.out]; rintro e w' ⟨rfl, rfl⟩) | (go_at_call 22; refine (l1In_any _ _ _ _).mono ?_; rw [HA.out]; rintro e w' ⟨rfl, rfl⟩))
      go_returns
      exact ⟨rfl, (by repeat (first | exact Below.refl _ _ | assumption | (refine bstep ?_ (by assumption)) | refine balloc ?_ _ | refine bdrew ?_ | refine bdrewN ?_ _ | refine bset ?_ (by first | (simp; done) | (simp; omega)) _))⟩
    · have hp : placeB s.data.toList a = true := by rw [placeB_yes ht]; exact ha
      have HA := Lib.hid ha
      rw [inI_iff] at ha
      obtain ⟨ha1, ha2⟩ := ha
      cases hc : inI c 0 ((s.size : Int) - a)
      · rw [fitsB_no (by rw [cutB_yes hp]; exact hc)]
        have HC := Lib.hid hc
        clear ht hc hp
        go_enter Try.func39, Try.ntmps39
        go_wp2_with (first | (go_at_call 23; refine (specTextValid_any _ _ hs1).mono ?_; rw [H.out]; rintro e w' ⟨rfl, rfl⟩) | (go_at_call 22; refine (l1In_any _ _ _ _).mono ?_; (first | rw [HA.out] | rw [HC.out]); rintro e w' ⟨rfl, rfl⟩))
        go_returns
        exact ⟨rfl, (by repeat (first | exact Below.refl _ _ | assumption | (refine bstep ?_ (by assumption)) | refine balloc ?_ _ | refine bdrew ?_ | refine bdrewN ?_ _ | refine bset ?_ (by first | (simp; done) | (simp; omega)) _))⟩
      · have hcut : cutB s.data.toList a c = true := by rw [cutB_yes hp]; exact hc
        rw [fitsB_yes hcut, fits_spec hcut]
        have HC := Lib.hid hc
        rw [inI_iff] at hc
        obtain ⟨hc1, hc2⟩ := hc
        clear ht hp hcut
        cases hpl : plain p.data.toList
        · have HP := Lib.hid hpl
          clear hpl
          go_enter Try.func39, Try.ntmps39
          go_wp2_with (first | (go_at_call 23; refine (specTextValid_any _ _ hs1).mono ?_; rw [H.out]; rintro e w' ⟨rfl, rfl⟩) | (go_at_call 22; refine (l1In_any _ _ _ _).mono ?_; (first | rw [HA.out] | rw [HC.out]); rintro e w' ⟨rfl, rfl⟩) | (go_at_call 24; refine (l1Plain_any _ _ hp1).mono ?_; rw [HP.out]; rintro e w' ⟨rfl, rfl⟩))
          go_returns
          exact ⟨rfl, (by repeat (first | exact Below.refl _ _ | assumption | (refine bstep ?_ (by assumption)) | refine balloc ?_ _ | refine bdrew ?_ | refine bdrewN ?_ _ | refine bset ?_ (by first | (simp; done) | (simp; omega)) _))⟩
        · have HP := Lib.hid hpl
          clear hpl
          go_enter Try.func39, Try.ntmps39
          go_wp2_with (first | (go_at_call 23; refine (specTextValid_any _ _ hs1).mono ?_; rw [H.out]; rintro e w' ⟨rfl, rfl⟩) | (go_at_call 22; refine (l1In_any _ _ _ _).mono ?_; (first | rw [HA.out] | rw [HC.out]); rintro e w' ⟨rfl, rfl⟩) | (go_at_call 24; refine (l1Plain_any _ _ hp1).mono ?_; rw [HP.out]; rintro e w' ⟨rfl, rfl⟩))
          go_returns
          exact ⟨ret_bool (by rw [Bool.true_and]), (by repeat (first | exact Below.refl _ _ | assumption | (refine bstep ?_ (by assumption)) | refine balloc ?_ _ | refine bdrew ?_ | refine bdrewN ?_ _ | refine bset ?_ (by first | (simp; done) | (simp; omega)) _))⟩
end Go.Proofs.Ytecejfcoognkiaa
