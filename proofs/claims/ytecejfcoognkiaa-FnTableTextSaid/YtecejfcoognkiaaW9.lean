/- Contracts on lines: how many there are, in which one a place is, where one begins. -/
import Derived.Test.YtecejfcoognkiaaW1
import Derived.Test.YtecejfcoognkiaaPn
import Derived.Lib.Bytealg
namespace Go.Proofs.Ytecejfcoognkiaa
open Go.RowKit

set_option maxRecDepth 100000 in
theorem strCount_nl (s : ByteArray) (w : World) :
    Calls Try.prog 35 #[.string s, .string ⟨#[10]⟩] w fun e w' => e = .returned (.int .i64 (nlc s.data.toList)) ∧ w = w' := by
  go_enter Try.func35, Try.ntmps35
  go_wp2
  rw [run_callFunc_extern Try.func42 (by kernel_rfl) (by kernel_rfl) (by kernel_rfl) (e := Extern.BytealgCount.count) (by kernel_rfl), Lib.run_countString]
  simp only [Result.andThen]
  rw [Oper.upon_value]
  go_wp2
  go_ret
  exact ⟨rfl, rfl⟩
theorem implLineMany_any (s : ByteArray) (w : World) (hs : s.size ≤ maxLen) :
    Calls Try.prog 25 #[.string s] w fun e w' => e = .returned (.int .i64 (lineManyI s.data.toList)) ∧ w = w' := by
  cases ht : tvB s.data.toList
  · rw [lineManyI_0 ht]
    have H := Lib.hid ht
    clear ht
    go_enter Try.func25, Try.ntmps25
    go_wp2_with (go_at_call 13; refine (implTextValid_any _ _ hs).mono ?_; rw [H.out]; rintro e w' ⟨rfl, rfl⟩)
    go_ret
    exact ⟨rfl, rfl⟩
  · rw [lineManyI_1 ht]
    have H := Lib.hid ht
    have hn : nlc s.data.toList ≤ 120 := Nat.le_trans (nlc_le _) ((tvB_iff _).1 ht).1
    clear ht
    go_enter Try.func25, Try.ntmps25
    go_wp2_with (first | (go_at_call 13; refine (implTextValid_any _ _ hs).mono ?_; rw [H.out]; rintro e w' ⟨rfl, rfl⟩) | (go_at_call 35; refine (strCount_nl _ _).mono ?_; rintro e w' ⟨rfl, rfl⟩))
    go_ret
    exact ⟨ret_int (by omega), rfl⟩
end Go.Proofs.Ytecejfcoognkiaa
