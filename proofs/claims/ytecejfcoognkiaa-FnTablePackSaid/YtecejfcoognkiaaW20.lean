/- Contracts of the texts of pieces. -/
import Derived.Test.YtecejfcoognkiaaW2
import Derived.Test.YtecejfcoognkiaaPt
namespace Go.Proofs.Ytecejfcoognkiaa
open Go.RowKit

theorem l3Text_t (f m : ByteArray) (A : Option Addr) (n c x y : Nat) (w : World) (hm : m.size ≤ 1048576) (h : x + y ≤ m.size) :
    Calls Try.prog 27 #[.agg #[.string f, .string m, .slice A n c], .agg #[.bool true, .int .i64 x, .int .i64 y]] w fun e w' => e = .returned (.string (m.extract x (x + y))) ∧ Below w.heap.size w w' := by
  go_enter Try.func27, Try.ntmps27
  go_wp2
  go_ret
  exact ⟨rfl, (by repeat (first | exact Below.refl _ _ | assumption | (refine bstep ?_ (by assumption)) | refine balloc ?_ _ | refine bdrew ?_ | refine bdrewN ?_ _ | refine bset ?_ (by first | (simp; done) | (simp; omega)) _))⟩
theorem l3Text_f (f m : ByteArray) (A : Option Addr) (n c x y : Nat) (w : World) (hm : f.size ≤ 1048576) (h : x + y ≤ f.size) :
    Calls Try.prog 27 #[.agg #[.string f, .string m, .slice A n c], .agg #[.bool false, .int .i64 x, .int .i64 y]] w fun e w' => e = .returned (.string (f.extract x (x + y))) ∧ Below w.heap.size w w' := by
  go_enter Try.func27, Try.ntmps27
  go_wp2
  go_ret
  exact ⟨rfl, (by repeat (first | exact Below.refl _ _ | assumption | (refine bstep ?_ (by assumption)) | refine balloc ?_ _ | refine bdrew ?_ | refine bdrewN ?_ _ | refine bset ?_ (by first | (simp; done) | (simp; omega)) _))⟩
theorem l3Text_any (f m : ByteArray) (A : Option Addr) (n c : Nat) (b : Bool) (x y : Int) (w : World) (hf : f.size ≤ 1048576) (hm : m.size ≤ 1048576) (h : pieceB f.size m.size (b, x, y) = true) :
    Calls Try.prog 27 #[.agg #[.string f, .string m, .slice A n c], .agg #[.bool b, .int .i64 x, .int .i64 y]] w fun e w' => e = .returned (.string (mk (pieceL f.data.toList m.data.toList (b, x, y)))) ∧ Below w.heap.size w w' := by
  obtain ⟨h0, h1, h2⟩ := pieceB_range h
  obtain ⟨x', rfl⟩ := Int.eq_ofNat_of_zero_le h0
  obtain ⟨y', rfl⟩ := Int.eq_ofNat_of_zero_le (by omega : 0 ≤ y)
  cases b
  · rw [roomN_f] at h2
    refine (l3Text_f f m A n c x' y' w hf (by omega)).mono ?_
    rintro e w' ⟨rfl, hb⟩
    exact ⟨by rw [extract_mid, Nat.add_sub_cancel_left]; rfl, hb⟩
  · rw [roomN_t] at h2
    refine (l3Text_t f m A n c x' y' w hm (by omega)).mono ?_
    rintro e w' ⟨rfl, hb⟩
    exact ⟨by rw [extract_mid, Nat.add_sub_cancel_left]; rfl, hb⟩
theorem text_t (f m : ByteArray) (A : Option Addr) (n c x y : Nat) (w : World) (hm : m.size ≤ 1048576) (h : x + y ≤ m.size) :
    Calls Try.prog 37 #[.agg #[.string f, .string m, .slice A n c], .agg #[.bool true, .int .i64 x, .int .i64 y]] w fun e w' => e = .returned (.string (m.extract x (x + y))) ∧ Below w.heap.size w w' := by
  go_enter Try.func37, Try.ntmps37
  go_wp2
  go_ret
  exact ⟨rfl, (by repeat (first | exact Below.refl _ _ | assumption | (refine bstep ?_ (by assumption)) | refine balloc ?_ _ | refine bdrew ?_ | refine bdrewN ?_ _ | refine bset ?_ (by first | (simp; done) | (simp; omega)) _))⟩
theorem text_f (f m : ByteArray) (A : Option Addr) (n c x y : Nat) (w : World) (hm : f.size ≤ 1048576) (h : x + y ≤ f.size) :
    Calls Try.prog 37 #[.agg #[.string f, .string m, .slice A n c], .agg #[.bool false, .int .i64 x, .int .i64 y]] w fun e w' => e = .returned (.string (f.extract x (x + y))) ∧ Below w.heap.size w w' := by
  go_enter Try.func37, Try.ntmps37
  go_wp2
  go_ret
  exact ⟨rfl, (by repeat (first | exact Below.refl _ _ | assumption | (refine bstep ?_ (by assumption)) | refine balloc ?_ _ | refine bdrew ?_ | refine bdrewN ?_ _ | refine bset ?_ (by first | (simp; done) | (simp; omega)) _))⟩
theorem text_any (f m : ByteArray) (A : Option Addr) (n c : Nat) (b : Bool) (x y : Int) (w : World) (hf : f.size ≤ 1048576) (hm : m.size ≤ 1048576) (h : pieceB f.size m.size (b, x, y) = true) :
    Calls Try.prog 37 #[.agg #[.string f, .string m, .slice A n c], .agg #[.bool b, .int .i64 x, .int .i64 y]] w fun e w' => e = .returned (.string (mk (pieceL f.data.toList m.data.toList (b, x, y)))) ∧ Below w.heap.size w w' := by
  obtain ⟨h0, h1, h2⟩ := pieceB_range h
  obtain ⟨x', rfl⟩ := Int.eq_ofNat_of_zero_le h0
  obtain ⟨y', rfl⟩ := Int.eq_ofNat_of_zero_le (by omega : 0 ≤ y)
  cases b
  · rw [roomN_f] at h2
    refine (text_f f m A n c x' y' w hf (by omega)).mono ?_
    rintro e w' ⟨rfl, hb⟩
    exact ⟨by rw [extract_mid, Nat.add_sub_cancel_left]; rfl, hb⟩
  · rw [roomN_t] at h2
    refine (text_t f m A n c x' y' w hm (by omega)).mono ?_
    rintro e w' ⟨rfl, hb⟩
    exact ⟨by rw [extract_mid, Nat.add_sub_cancel_left]; rfl, hb⟩
end Go.Proofs.Ytecejfcoognkiaa
