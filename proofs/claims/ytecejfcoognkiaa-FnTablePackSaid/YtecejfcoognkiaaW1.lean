/- Contracts of the functions on single bytes, ranges and valid texts: each returns what the plain function says, and leaves the world as it is. -/
import Derived.Test.YtecejfcoognkiaaProg
import Derived.Test.YtecejfcoognkiaaPl
import Derived.WalkKit
import Derived.WalkLawsBesides
import Derived.WalkSpells
import Derived.Outline
import Derived.Lib.Hide
namespace Go.Proofs.Ytecejfcoognkiaa
open Go.RowKit

theorem isByte_any (n : Int) (w : World) (h0 : 0 ≤ n) (h1 : n ≤ 255) :
    Calls Try.prog 20 #[.int .u8 n] w fun e w' => e = .returned (.bool (okI n)) ∧ w = w' := by
  by_cases a : n = 10
  · have hb := okI_yes (n := n) (.inl a)
    rw [hb]
    clear hb
    subst a
    go_enter Try.func20, Try.ntmps20
    go_wp2
    go_ret
    exact ⟨rfl, rfl⟩
  · have hx : (n == 10) = false := by simpa using a
    by_cases b : 32 ≤ n
    · by_cases c : n ≤ 126
      · have hb := okI_yes (n := n) (.inr ⟨b, c⟩)
        rw [hb]
        clear hb
        go_enter Try.func20, Try.ntmps20
        go_wp2
        go_ret
        exact ⟨by simp, rfl⟩
      · have hb := okI_no (n := n) a (.inr (by omega))
        rw [hb]
        clear hb
        go_enter Try.func20, Try.ntmps20
        go_wp2
        go_ret
        exact ⟨by simp, rfl⟩
    · have hb := okI_no (n := n) a (.inl (by omega))
      rw [hb]
      clear hb
      go_enter Try.func20, Try.ntmps20
      go_wp2
      go_ret
      exact ⟨by simp, rfl⟩
theorem in_any (n lo hi : Int) (w : World) :
    Calls Try.prog 21 #[.int .i64 n, .int .i64 lo, .int .i64 hi] w fun e w' => e = .returned (.bool (inI n lo hi)) ∧ w = w' := by
  by_cases a : lo ≤ n
  · by_cases b : n ≤ hi
    · have hb := inI_yes a b
      rw [hb]
      clear hb
      go_enter Try.func21, Try.ntmps21
      go_wp2
      go_ret
      exact ⟨by simp, rfl⟩
    · have hb := inI_no (n := n) (lo := lo) (hi := hi) (by omega)
      rw [hb]
      clear hb
      go_enter Try.func21, Try.ntmps21
      go_wp2
      go_ret
      exact ⟨by simp, rfl⟩
  · have hb := inI_no (n := n) (lo := lo) (hi := hi) (by omega)
    rw [hb]
    clear hb
    go_enter Try.func21, Try.ntmps21
    go_wp2
    go_ret
    exact ⟨by simp, rfl⟩
theorem l1In_any (n lo hi : Int) (w : World) :
    Calls Try.prog 22 #[.int .i64 n, .int .i64 lo, .int .i64 hi] w fun e w' => e = .returned (.bool (inI n lo hi)) ∧ w = w' := by
  by_cases a : lo ≤ n
  · by_cases b : n ≤ hi
    · have hb := inI_yes a b
      rw [hb]
      clear hb
      go_enter Try.func22, Try.ntmps22
      go_wp2
      go_ret
      exact ⟨by simp, rfl⟩
    · have hb := inI_no (n := n) (lo := lo) (hi := hi) (by omega)
      rw [hb]
      clear hb
      go_enter Try.func22, Try.ntmps22
      go_wp2
      go_ret
      exact ⟨by simp, rfl⟩
  · have hb := inI_no (n := n) (lo := lo) (hi := hi) (by omega)
    rw [hb]
    clear hb
    go_enter Try.func22, Try.ntmps22
    go_wp2
    go_ret
    exact ⟨by simp, rfl⟩
set_option maxHeartbeats 400000 in
theorem l1Plain_any (s : ByteArray) (w : World) (hs : s.size ≤ maxLen) :
    Calls Try.prog 24 #[.string s] w fun e w' => e = .returned (.bool (plain s.data.toList)) ∧ w = w' := by
  unfold maxLen at hs
  go_enter Try.func24, Try.ntmps24
  go_wp2
  go_loop [3] (fun i => ∃ k : Nat, k ≤ s.size ∧ i = .int .i64 k ∧ plain (s.data.toList.take k) = true) (fun i => s.size - (intOf i).toNat)
  case atStart => exact ⟨0, Nat.zero_le _, rfl, rfl⟩
  case round =>
    obtain ⟨k, hk, rfl, hp⟩ := hrel
    have Hp := Lib.hid hp
    clear hp
    by_cases hlt : k < s.size
    · go_wp2_with (go_at_call 22; refine (l1In_any _ _ _ _).mono ?_; rintro e w' ⟨rfl, rfl⟩)
      · go_round
        case rel => exact ⟨k + 1, by omega, by go_num, plain_step s k hlt Hp.out (okI_yes (.inl (by assumption)))⟩
        case measure => simp [intOf]; omega
      · go_ret
        exact ⟨by rw [plain_stop s k hlt (okI_stop (by assumption) (by assumption))]; rfl, rfl⟩
      · go_round
        case rel => exact ⟨k + 1, by omega, by go_num, plain_step s k hlt Hp.out (okI_go (by assumption) (by assumption))⟩
        case measure => simp [intOf]; omega
    · go_wp2
      go_ret
      exact ⟨by rw [plain_end s k (by omega) Hp.out]; rfl, rfl⟩
set_option maxHeartbeats 400000 in
theorem implTextValid_any (s : ByteArray) (w : World) (hs : s.size ≤ maxLen) :
    Calls Try.prog 13 #[.string s] w fun e w' => e = .returned (.bool (tvB s.data.toList)) ∧ w = w' := by
  unfold maxLen at hs
  go_enter Try.func13, Try.ntmps13
  go_wp2
  go_loop [6] (fun i => ∃ k : Nat, k ≤ s.size ∧ i = .int .i64 k ∧ plain (s.data.toList.take k) = true) (fun i => s.size - (intOf i).toNat)
  case atStart => exact ⟨0, Nat.zero_le _, rfl, rfl⟩
  case round =>
    obtain ⟨k, hk, rfl, hp⟩ := hrel
    have Hp := Lib.hid hp
    clear hp
    by_cases hlt : k < s.size
    · go_wp2_with (go_at_call 20; refine (isByte_any _ _ (by omega) (by have := s[k].toNat_lt; omega)).mono ?_; rintro e w' ⟨rfl, rfl⟩)
      · go_ret
        exact ⟨ret_bool (tvB_false_of_plain (plain_stop s k hlt (by simpa using ‹(!okI _) = true›))).symm, rfl⟩
      · go_round
        case rel => exact ⟨k + 1, by omega, by go_num, plain_step s k hlt Hp.out (by simpa using ‹(!okI _) = false›)⟩
        case measure => simp [intOf]; omega
    · go_wp2
      go_ret
      exact ⟨ret_bool (tvB_end s (plain_end s k (by omega) Hp.out)).symm, rfl⟩
theorem specTextValid_any (s : ByteArray) (w : World) (hs : s.size ≤ maxLen) :
    Calls Try.prog 23 #[.string s] w fun e w' => e = .returned (.bool (tvB s.data.toList)) ∧ w = w' := by
  have hs' := hs
  unfold maxLen at hs'
  by_cases h : s.size ≤ 120
  · go_enter Try.func23, Try.ntmps23
    go_wp2_with (go_at_call 24; refine (l1Plain_any _ _ hs).mono ?_; rintro e w' ⟨rfl, rfl⟩)
    go_ret
    exact ⟨ret_bool (tvB_short s h).symm, rfl⟩
  · go_enter Try.func23, Try.ntmps23
    go_wp2
    go_ret
    exact ⟨ret_bool (tvB_long s (by omega)).symm, rfl⟩
end Go.Proofs.Ytecejfcoognkiaa
