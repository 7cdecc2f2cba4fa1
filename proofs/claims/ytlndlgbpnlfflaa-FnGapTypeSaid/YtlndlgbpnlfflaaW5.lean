/- Contracts of the functions that apply a change, or say whether it is possible. -/
import Derived.Test.YtlndlgbpnlfflaaW2
import Derived.Deep.QuietTactic
import Derived.BigQuiet
namespace Go.Proofs.Ytlndlgbpnlfflaa
open Go.RowKit

theorem apply_no (a c : Int) (p s : ByteArray) (w : World) (hs : s.size ≤ maxLen) (h : cutB s.data.toList a c = false) :
    Calls Try.prog 50 #[.agg #[.int .i64 a, .int .i64 c, .string p], .string s] w fun e w' => e = .returned (.tuple #[.string ByteArray.empty, .bool false]) ∧ Below w.heap.size w w' := by
  have hs' := hs
  unfold maxLen at hs'
  cases hp : placeB s.data.toList a
  · have H := Lib.hid hp
    clear hp h
    go_enter Try.func50, Try.ntmps50
    go_wp2_with (go_at_call 46; refine (isPlace_any _ _ _ hs).mono ?_; rw [H.out]; rintro e w' ⟨rfl, rfl⟩)
    go_returns
    exact ⟨rfl, (by repeat (first | exact Below.refl _ _ | assumption | (refine bstep ?_ (by assumption)) | refine balloc ?_ _ | refine bdrew ?_ | refine bdrewN ?_ _ | refine bset ?_ (by first | (simp; done) | (simp; omega)) _))⟩
  · have hr := placeB_range hp
    rw [cutB_yes hp] at h
    have H := Lib.hid hp
    have HC := Lib.hid h
    clear hp h
    obtain ⟨hr1, hr2⟩ := hr
    go_enter Try.func50, Try.ntmps50
    go_wp2_with (first | (go_at_call 46; refine (isPlace_any _ _ _ hs).mono ?_; rw [H.out]; rintro e w' ⟨rfl, rfl⟩) | (go_at_call 47; refine (in_any _ _ _ _).mono ?_; rw [HC.out]; rintro e w' ⟨rfl, rfl⟩))
    go_returns
    exact ⟨rfl, (by repeat (first | exact Below.refl _ _ | assumption | (refine bstep ?_ (by assumption)) | refine balloc ?_ _ | refine bdrew ?_ | refine bdrewN ?_ _ | refine bset ?_ (by first | (simp; done) | (simp; omega)) _))⟩
set_option maxHeartbeats 400000 in
theorem apply_yes (a c : Int) (p s : ByteArray) (w : World) (hs : s.size + p.size ≤ 1099511627776) (h : cutB s.data.toList a c = true) :
    Calls Try.prog 50 #[.agg #[.int .i64 a, .int .i64 c, .string p], .string s] w fun e w' => e = .returned (.tuple #[.string (mk (outL s.data.toList a c p.data.toList)), .bool (fitsB s.data.toList a c p.data.toList)]) ∧ Below w.heap.size w w' := by
  have hs1 : s.size ≤ maxLen := by unfold maxLen; omega
  have hr := cutB_range h
  have hp : placeB s.data.toList a = true := by
    unfold cutB at h
    rw [Bool.and_eq_true] at h
    exact h.1
  have hl : (mk (outL s.data.toList a c p.data.toList)).size ≤ maxLen := by
    have h1 := outL_length (l := s.data.toList) (p := p.data.toList) hr.1 hr.2.2.1 hr.2.2.2
    have e1 : (s.data.toList.length : Int) = s.size := rfl
    have e2 : (p.data.toList.length : Int) = p.size := rfl
    rw [mk_size]
    unfold maxLen
    omega
  have hfit := fitsB_yes (p := p.data.toList) h
  rw [cutB_yes hp] at h
  have H := Lib.hid hp
  have HC := Lib.hid h
  have hft : tvB (s.extract 0 a.toNat ++ p ++ s.extract (a + c).toNat s.size).data.toList = fitsB s.data.toList a c p.data.toList := by
    rw [hfit, out_walk, mk_data]
  have HF := Lib.hid hft
  have HO := Lib.hid (out_walk s p a c)
  rw [← out_walk] at hl
  clear hp h hfit hft
  obtain ⟨hr1, hr2, hr3, hr4⟩ := hr
  go_enter Try.func50, Try.ntmps50
  go_wp2_with (first | (go_at_call 46; refine (isPlace_any _ _ _ hs1).mono ?_; rw [H.out]; rintro e w' ⟨rfl, rfl⟩) | (go_at_call 47; refine (in_any _ _ _ _).mono ?_; rw [HC.out]; rintro e w' ⟨rfl, rfl⟩))
  go_quiet (fail)
  go_wp2_with (go_at_call 49; refine (implTextValid_any _ _ hl).mono ?_; rw [HF.out]; rintro e w' ⟨rfl, rfl⟩)
  go_returns
  exact ⟨by rw [HO.out]; rfl, (by repeat (first | exact Below.refl _ _ | assumption | (refine bstep ?_ (by assumption)) | refine balloc ?_ _ | refine bdrew ?_ | refine bdrewN ?_ _ | refine bset ?_ (by first | (simp; done) | (simp; omega)) _))⟩
end Go.Proofs.Ytlndlgbpnlfflaa
