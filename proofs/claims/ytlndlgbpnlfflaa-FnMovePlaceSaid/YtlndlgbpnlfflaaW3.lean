/- Contracts of the functions that measure and copy a change, and of MovePlace. -/
import Derived.Test.YtlndlgbpnlfflaaW2
namespace Go.Proofs.Ytlndlgbpnlfflaa
open Go.RowKit

set_option maxHeartbeats 1000000 in
theorem specMovePlace_any (a c pl : Int) (p : ByteArray) (b : Bool) (w : World) (hp : p.size ≤ maxLen) :
    Calls Try.prog 26 #[.agg #[.int .i64 a, .int .i64 c, .string p], .int .i64 pl, .bool b] w fun e w' => e = .returned (.int .i64 (mpI a c p.size pl b)) ∧ Below w.heap.size w w' := by
  unfold maxLen at hp
  cases b
  all_goals
    go_enter Try.func26, Try.ntmps26
    go_wp2
    all_goals go_returns
    all_goals refine ⟨ret_int ?_, (by repeat (first | exact Below.refl _ _ | assumption | (refine bstep ?_ (by assumption)) | refine balloc ?_ _ | refine bdrew ?_ | refine bdrewN ?_ _ | refine bset ?_ (by first | (simp; done) | (simp; omega)) _))⟩
    all_goals first | exact (mpI_bad (by omega)).symm | exact (mpI_1 (by omega) (by omega) (by omega) (by omega) (by omega)).symm | exact (mpI_2 (by omega) (by omega) (by omega) (by omega) (by omega) (by omega)).symm | exact (mpI_3 (by omega) (by omega) (by omega) (by omega) (by omega) (by omega)).symm | exact (mpI_4 (by omega) (by omega) (by omega) (by omega) (by omega) (by omega)).symm
theorem implMovePlace_bad (a c pl : Int) (p : ByteArray) (b : Bool) (w : World) (hp : p.size ≤ maxLen) (h : a < 0 ∨ 120 < a ∨ c < 0 ∨ 120 < c ∨ pl < 0 ∨ 120 < pl ∨ 120 < (p.size : Int)) :
    Calls Try.prog 25 #[.agg #[.int .i64 a, .int .i64 c, .string p], .int .i64 pl, .bool b] w fun e w' => e = .returned (.int .i64 (-1)) ∧ Below w.heap.size w w' := by
  unfold maxLen at hp
  cases ha : inI a 0 120
  · have HA := Lib.hid ha
    clear ha h
    go_enter Try.func25, Try.ntmps25
    go_wp2_with (go_at_call 47; refine (in_any _ _ _ _).mono ?_; rw [HA.out]; rintro e w' ⟨rfl, rfl⟩)
    go_returns
    exact ⟨rfl, (by repeat (first | exact Below.refl _ _ | assumption | (refine bstep ?_ (by assumption)) | refine balloc ?_ _ | refine bdrew ?_ | refine bdrewN ?_ _ | refine bset ?_ (by first | (simp; done) | (simp; omega)) _))⟩
  · have HA := Lib.hid ha
    cases hc : inI c 0 120
    · have HC := Lib.hid hc
      clear ha hc h
      go_enter Try.func25, Try.ntmps25
      go_wp2_with (go_at_call 47; refine (in_any _ _ _ _).mono ?_; (first | rw [HA.out] | rw [HC.out]); rintro e w' ⟨rfl, rfl⟩)
      go_returns
      exact ⟨rfl, (by repeat (first | exact Below.refl _ _ | assumption | (refine bstep ?_ (by assumption)) | refine balloc ?_ _ | refine bdrew ?_ | refine bdrewN ?_ _ | refine bset ?_ (by first | (simp; done) | (simp; omega)) _))⟩
    · have HC := Lib.hid hc
      cases hl : inI pl 0 120
      · have HL := Lib.hid hl
        clear ha hc hl h
        go_enter Try.func25, Try.ntmps25
        go_wp2_with (go_at_call 47; refine (in_any _ _ _ _).mono ?_; (first | rw [HA.out] | rw [HC.out] | rw [HL.out]); rintro e w' ⟨rfl, rfl⟩)
        go_returns
        exact ⟨rfl, (by repeat (first | exact Below.refl _ _ | assumption | (refine bstep ?_ (by assumption)) | refine balloc ?_ _ | refine bdrew ?_ | refine bdrewN ?_ _ | refine bset ?_ (by first | (simp; done) | (simp; omega)) _))⟩
      · have HL := Lib.hid hl
        rw [inI_iff] at ha hc hl
        have hx : 120 < (p.size : Int) := by omega
        clear ha hc hl h
        go_enter Try.func25, Try.ntmps25
        go_wp2_with (go_at_call 47; refine (in_any _ _ _ _).mono ?_; (first | rw [HA.out] | rw [HC.out] | rw [HL.out]); rintro e w' ⟨rfl, rfl⟩)
        go_returns
        exact ⟨rfl, (by repeat (first | exact Below.refl _ _ | assumption | (refine bstep ?_ (by assumption)) | refine balloc ?_ _ | refine bdrew ?_ | refine bdrewN ?_ _ | refine bset ?_ (by first | (simp; done) | (simp; omega)) _))⟩
theorem implMovePlace_good (a c pl : Int) (p : ByteArray) (b : Bool) (w : World) (h1 : 0 ≤ a ∧ a ≤ 120) (h2 : 0 ≤ c ∧ c ≤ 120) (h3 : 0 ≤ pl ∧ pl ≤ 120) (h4 : (p.size : Int) ≤ 120) :
    Calls Try.prog 25 #[.agg #[.int .i64 a, .int .i64 c, .string p], .int .i64 pl, .bool b] w fun e w' => e = .returned (.int .i64 (mpI a c p.size pl b)) ∧ Below w.heap.size w w' := by
  have ha := inI_yes h1.1 h1.2
  have hc := inI_yes h2.1 h2.2
  have hl := inI_yes h3.1 h3.2
  have HA := Lib.hid ha
  have HC := Lib.hid hc
  have HL := Lib.hid hl
  clear ha hc hl
  obtain ⟨h1, h1'⟩ := h1
  obtain ⟨h2, h2'⟩ := h2
  obtain ⟨h3, h3'⟩ := h3
  cases b
  all_goals
    go_enter Try.func25, Try.ntmps25
    go_wp2_with (go_at_call 47; refine (in_any _ _ _ _).mono ?_; (first | rw [HA.out] | rw [HC.out] | rw [HL.out]); rintro e w' ⟨rfl, rfl⟩)
    all_goals go_returns
    all_goals refine ⟨ret_int ?_, (by repeat (first | exact Below.refl _ _ | assumption | (refine bstep ?_ (by assumption)) | refine balloc ?_ _ | refine bdrew ?_ | refine bdrewN ?_ _ | refine bset ?_ (by first | (simp; done) | (simp; omega)) _))⟩
    all_goals first | exact (mpI_bad (by omega)).symm | exact (mpI_1 (by omega) (by omega) (by omega) (by omega) (by omega)).symm | exact (mpI_2 (by omega) (by omega) (by omega) (by omega) (by omega) (by omega)).symm | exact (mpI_3 (by omega) (by omega) (by omega) (by omega) (by omega) (by omega)).symm | exact (mpI_4 (by omega) (by omega) (by omega) (by omega) (by omega) (by omega)).symm
theorem implMovePlace_any (a c pl : Int) (p : ByteArray) (b : Bool) (w : World) (hp : p.size ≤ maxLen) :
    Calls Try.prog 25 #[.agg #[.int .i64 a, .int .i64 c, .string p], .int .i64 pl, .bool b] w fun e w' => e = .returned (.int .i64 (mpI a c p.size pl b)) ∧ Below w.heap.size w w' := by
  by_cases h : a < 0 ∨ 120 < a ∨ c < 0 ∨ 120 < c ∨ pl < 0 ∨ 120 < pl ∨ 120 < (p.size : Int)
  · rw [mpI_bad h]
    exact implMovePlace_bad a c pl p b w hp h
  · exact implMovePlace_good a c pl p b w (by omega) (by omega) (by omega) (by omega)
end Go.Proofs.Ytlndlgbpnlfflaa
