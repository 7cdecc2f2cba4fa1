/- Contracts of the functions on single bytes, ranges and valid texts: each returns what the plain function says, and leaves the world as it is. -/
import Derived.Test.YtlndlgbpnlfflaaProg
import Derived.Test.YtlndlgbpnlfflaaPl
import Derived.WalkKit
import Derived.WalkLawsBesides
import Derived.WalkSpells
import Derived.Outline
import Derived.Lib.Hide
namespace Go.Proofs.Ytlndlgbpnlfflaa
open Go.RowKit

theorem isByte_any (n : Int) (w : World) (h0 : 0 ≤ n) (h1 : n ≤ 255) :
    Calls Try.prog 64 #[.int .u8 n] w fun e w' => e = .returned (.bool (okI n)) ∧ w = w' := by
  by_cases a : n = 10
  · have hb := okI_yes (n := n) (.inl a)
    rw [hb]
    clear hb
    subst a
    go_enter Try.func64, Try.ntmps64
    go_wp2
    go_ret
    exact ⟨rfl, rfl⟩
  · have hx : (n == 10) = false := by simpa using a
    by_cases b : 32 ≤ n
    · by_cases c : n ≤ 126
      · have hb := okI_yes (n := n) (.inr ⟨b, c⟩)
        rw [hb]
        clear hb
        go_enter Try.func64, Try.ntmps64
        go_wp2
        go_ret
        exact ⟨by simp, rfl⟩
      · have hb := okI_no (n := n) a (.inr (by omega))
        rw [hb]
        clear hb
        go_enter Try.func64, Try.ntmps64
        go_wp2
        go_ret
        exact ⟨by simp, rfl⟩
    · have hb := okI_no (n := n) a (.inl (by omega))
      rw [hb]
      clear hb
      go_enter Try.func64, Try.ntmps64
      go_wp2
      go_ret
      exact ⟨by simp, rfl⟩
theorem in_any (n lo hi : Int) (w : World) :
    Calls Try.prog 47 #[.int .i64 n, .int .i64 lo, .int .i64 hi] w fun e w' => e = .returned (.bool (inI n lo hi)) ∧ w = w' := by
  by_cases a : lo ≤ n
  · by_cases b : n ≤ hi
    · have hb := inI_yes a b
      rw [hb]
      clear hb
      go_enter Try.func47, Try.ntmps47
      go_wp2
      go_ret
      exact ⟨by simp, rfl⟩
    · have hb := inI_no (n := n) (lo := lo) (hi := hi) (by omega)
      rw [hb]
      clear hb
      go_enter Try.func47, Try.ntmps47
      go_wp2
      go_ret
      exact ⟨by simp, rfl⟩
  · have hb := inI_no (n := n) (lo := lo) (hi := hi) (by omega)
    rw [hb]
    clear hb
    go_enter Try.func47, Try.ntmps47
    go_wp2
    go_ret
    exact ⟨by simp, rfl⟩
theorem l1In_any (n lo hi : Int) (w : World) :
    Calls Try.prog 48 #[.int .i64 n, .int .i64 lo, .int .i64 hi] w fun e w' => e = .returned (.bool (inI n lo hi)) ∧ w = w' := by
  by_cases a : lo ≤ n
  · by_cases b : n ≤ hi
    · have hb := inI_yes a b
      rw [hb]
      clear hb
      go_enter Try.func48, Try.ntmps48
      go_wp2
      go_ret
      exact ⟨by simp, rfl⟩
    · have hb := inI_no (n := n) (lo := lo) (hi := hi) (by omega)
      rw [hb]
      clear hb
      go_enter Try.func48, Try.ntmps48
      go_wp2
      go_ret
      exact ⟨by simp, rfl⟩
  · have hb := inI_no (n := n) (lo := lo) (hi := hi) (by omega)
    rw [hb]
    clear hb
    go_enter Try.func48, Try.ntmps48
    go_wp2
    go_ret
    exact ⟨by simp, rfl⟩
set_option maxHeartbeats 400000 in
theorem l1Plain_any (s : ByteArray) (w : World) (hs : s.size ≤ maxLen) :
    Calls Try.prog 63 #[.string s] w fun e w' => e = .returned (.bool (plain s.data.toList)) ∧ w = w' := by
  unfold maxLen at hs
  go_enter Try.func63, Try.ntmps63
  go_wp2
  go_loop [3] (fun i => ∃ k : Nat, k ≤ s.size ∧ i = .int .i64 k ∧ plain (s.data.toList.take k) = true) (fun i => s.size - (intOf i).toNat)
  case atStart => exact ⟨0, Nat.zero_le _, rfl, rfl⟩
  case round =>
    obtain ⟨k, hk, rfl, hp⟩ := hrel
    have Hp := Lib.hid hp
    clear hp
    by_cases hlt : k < s.size
    · go_wp2_with (go_at_call 48; refine (l1In_any _ _ _ _).mono ?_; rintro e w' ⟨rfl, rfl⟩)
      · go_round
        case rel => exact ⟨k + 1, by omega, by go_num, plain_step s k hlt Hp.out (okI_yes (.inl (by assumption)))⟩
        case measure => simp [intOf]; omega
      · go_ret
        exact ⟨by rw [plain_stop s k hlt (okI_stop (by assumption) (by assumption))]; rfl, rfl⟩
      · go_round
        case rel => exact ⟨k + 1, by omega, by go_num, plain_step s k hlt Hp.out (okI_go (by assumption) (by assumption))⟩
        case measure => simp [intOf]; omega
    · go_wp2
      go_ret
      exact ⟨by rw [plain_end s k (by omega) Hp.out]; rfl, rfl⟩
set_option maxHeartbeats 400000 in
theorem implTextValid_any (s : ByteArray) (w : World) (hs : s.size ≤ maxLen) :
    Calls Try.prog 49 #[.string s] w fun e w' => e = .returned (.bool (tvB s.data.toList)) ∧ w = w' := by
  unfold maxLen at hs
  go_enter Try.func49, Try.ntmps49
  go_wp2
  go_loop [6] (fun i => ∃ k : Nat, k ≤ s.size ∧ i = .int .i64 k ∧ plain (s.data.toList.take k) = true) (fun i => s.size - (intOf i).toNat)
  case atStart => exact ⟨0, Nat.zero_le _, rfl, rfl⟩
  case round =>
    obtain ⟨k, hk, rfl, hp⟩ := hrel
    have Hp := Lib.hid hp
    clear hp
    by_cases hlt : k < s.size
    · go_wp2_with (go_at_call 64; refine (isByte_any _ _ (by omega) (by have := s[k].toNat_lt; omega)).mono ?_; rintro e w' ⟨rfl, rfl⟩)
      · go_ret
        exact ⟨ret_bool (tvB_false_of_plain (plain_stop s k hlt (by simpa using ‹(!okI _) = true›))).symm, rfl⟩
      · go_round
        case rel => exact ⟨k + 1, by omega, by go_num, plain_step s k hlt Hp.out (by simpa using ‹(!okI _) = false›)⟩
        case measure => simp [intOf]; omega
    · go_wp2
      go_ret
      exact ⟨ret_bool (tvB_end s (plain_end s k (by omega) Hp.out)).symm, rfl⟩
theorem specTextValid_any (s : ByteArray) (w : World) (hs : s.size ≤ maxLen) :
    Calls Try.prog 37 #[.string s] w fun e w' => e = .returned (.bool (tvB s.data.toList)) ∧ w = w' := by
  have hs' := hs
  unfold maxLen at hs'
  by_cases h : s.size ≤ 120
  · go_enter Try.func37, Try.ntmps37
    go_wp2_with (go_at_call 63; refine (l1Plain_any _ _ hs).mono ?_; rintro e w' ⟨rfl, rfl⟩)
    go_ret
    exact ⟨ret_bool (tvB_short s h).symm, rfl⟩
  · go_enter Try.func37, Try.ntmps37
    go_wp2
    go_ret
    exact ⟨ret_bool (tvB_long s (by omega)).symm, rfl⟩
theorem isPlace_any (s : ByteArray) (p : Int) (w : World) (hs : s.size ≤ maxLen) :
    Calls Try.prog 46 #[.string s, .int .i64 p] w fun e w' => e = .returned (.bool (placeB s.data.toList p)) ∧ w = w' := by
  have hs' := hs
  unfold maxLen at hs'
  cases h : tvB s.data.toList
  · have hb := placeB_no (p := p) h
    rw [hb]
    have H := Lib.hid h
    clear h hb
    go_enter Try.func46, Try.ntmps46
    go_wp2_with (go_at_call 49; refine (implTextValid_any _ _ hs).mono ?_; rw [H.out]; rintro e w' ⟨rfl, rfl⟩)
    go_ret
    exact ⟨rfl, rfl⟩
  · have hb := placeB_yes (p := p) h
    rw [hb]
    have H := Lib.hid h
    clear h hb
    go_enter Try.func46, Try.ntmps46
    go_wp2_with (first | (go_at_call 49; refine (implTextValid_any _ _ hs).mono ?_; rw [H.out]; rintro e w' ⟨rfl, rfl⟩) | (go_at_call 47; refine (in_any _ _ _ _).mono ?_; rintro e w' ⟨rfl, rfl⟩))
    go_ret
    exact ⟨by simp, rfl⟩
end Go.Proofs.Ytlndlgbpnlfflaa
